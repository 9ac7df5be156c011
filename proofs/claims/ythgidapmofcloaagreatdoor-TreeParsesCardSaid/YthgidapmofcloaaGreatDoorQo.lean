/- A part of a function's code, by its place: walks in pieces. text.Wrong, text.Quoted: the text in quotes with which a text begins. The reference's escapes: Hex, Number, Simple, Byte. The reference's escape and Within. The reference's Within: the text behind a quote at a place. What a text of a tree says: the reader as a function of places alone. The reader of trees: bytes' kinds, and the place where it stands. The reader of trees: rows of bytes. The reader of trees: blanks, nodes, quoted texts. The reader of trees: quoted texts. The reader of trees: trees with lists of their own. The reader of trees: numbers and words. The reader of trees: what it gives has lists of its own; where it ends. The reader of trees: lists. The reader of trees: records. The reader of trees: a tree. The reader of trees: the closures of Parse and Read. The reader of trees: Read and Parse. The reader of trees: Parse; whether an error is what is refused. Texts of characters: what the reference's Runes tells, whatever the store. The reference's reader: its small functions. The reference's reader: blanks, rows, quoted texts. Printed by mkWU23.py. The reference's reader: rows. Printed by mkWU24.py. The reference's reader: quoted texts, what begins, words and numbers and times. The reference's reader: words and numbers and times. The reference's reader: a value. The reference's reader: a value, walked. The reference's reader: a value, from its first byte on. The reference's reader: lists. Printed by mkWU30.py. The reference's reader: what a record's loop does, from the key on. Printed by mkWU31.py. The reference's reader: records. The reference's reader: Begin and Parse. Numbers handed in a list; emendbook.Within. The law TreeParses, over the functions that it calls. -/
import Derived.Test.YthgidapmofcloaaGreatDoorQn
set_option linter.unusedSimpArgs false
set_option linter.unusedVariables false
namespace Go.Dn
def subC:DC->List Nat->DC
 | c,[]=>c
 |.seq a _,0::p=>subC a p
 |.seq _ b,_::p=>subC b p
 |.cnd _ a _,0::p=>subC a p
 |.cnd _ _ b,_::p=>subC b p
 |.blk _ c,_::p=>subC c p
 |.lop c,_::p=>subC c p
 | _,_=>.fail
end Go.Dn

namespace Go.Dn
open Go Go.Proofs.C1
set_option maxRecDepth 100000
attribute [local irreducible] afterS keepE
set_option maxHeartbeats 64000000
inductive QR where
 | ok (txt:List UInt8) (n:Nat)
 | bad (at_ why:Nat)
theorem escU_len {s:List UInt8}{p:Nat×Nat}(h:escU s=some p):1<=p.2/\p.2<=s.length/\p.1<1114112:=by
 cases s with
 | nil=>cases h
 | cons c r =>
  have hc:=u8_lt c;have e16:(((0+1)*16 ^ 4:Nat):Int)=65536:=by decide
  have b1:=numH_bd (s:=r) (k:=4) (n:=0);have b2:=numH_bd (s:=r.drop 6) (k:=4) (n:=0);rw[e16]at b1 b2;rw[lD]at b2;simp only[escU]at h;have one:∀{x:Nat},x<1114112->some (x,1)=some p->1<=p.2/\p.2<=(c::r).length/\p.1<1114112:=λhx e=>by
   cases e;exact⟨nR _,by simp,hx⟩
  split at h
  ·exact one (by omega) h
  split at h
  ·exact one (by omega) h
  split at h
  ·exact one (by omega) h
  split at h
  ·exact one (by omega) h
  split at h
  ·exact one (by omega) h
  split at h
  ·exact one (by omega) h
  split at h
  ·unfold pairB at h;split at h
   ·cases h
   split at h
   ·cases h;simp only[lC];omega
   split at h
   ·cases h
   split at h
   ·cases h
   ·cases h;simp only[lC];omega
  ·cases h
def quoL (rest:List UInt8)(i:Nat)(acc:List UInt8):QR :=
 match rest with
 | []=>.bad i 14
 | c::r=>if c.toNat=34 then .ok acc (i+1) else if c.toNat<32 then .bad i 13 else if c.toNat=92 then (match escU r with
  | none=>.bad i 11
  | some p=>quoL (r.drop p.2) (i+1+p.2) (acc++encC p.1)) else quoL r (i+1) (acc++[c])
termination_by rest.length
decreasing_by all_goals simp only[lD,lC];omega
def quoB:List UInt8->QR
 | []=>.bad 0 14
 | c::r=>if c.toNat=34 then quoL r 1 [] else .bad 0 13
theorem encC_len (c:Nat):1<=(encC c).length/\(encC c).length<=4:=by
 unfold encC;split
 ·simp
 ·split
  ·simp
  ·split<;>simp
section
variable {gt:GT}{C:CallT}
abbrev wrB (id at_ why:Nat):Rs:=.bx id 111 [.int .i64 at_,.int .i64 why]
theorem wrong_wp {S:St}{R:List Rs}{at_ why:Nat}(hR:Hs S R):wpF gt C F85 [.int .i64 at_,.int .i64 why] S λr S'=>∃id,r=.ret (.ptr id 0)/\Hs S' (R++[wrB id at_ why])/\S'.mv=S.mv/\S'.dl=S.dl:=by
 have hB:=hR.newBox 111 [.int .i64 at_,.int .i64 why];refine⟨rfl,?_⟩;refine goW ?_;exact⟨_,rfl,_,rfl,hB,rfl,rfl⟩
def QPost (q:QR)(R:List Rs)(S:St):Res->St->Prop:=λr S'=>(match q with
 |.ok t n=>r=.ret (.tup [.str t,.int .i64 n,.nilp])/\Hs S' R
 |.bad a w=>∃id,r=.ret (.tup [.str [],.int .i64 0,.ptr id 0])/\Hs S' (R++[wrB id a w]))/\S'.mv=S.mv/\S'.dl=S.dl
abbrev E_quo (s:List UInt8)(o:SI)(acc:List UInt8)(i:Int):Env:=[(0,.val (.str s)),(5,.val (.sl 1 o (ofBytes acc))),(6,.val (.int .i64 i))]
theorem quoted_wp (hm:MonoC C){S:St}{R:List Rs}{s:List UInt8}(hR:Hs S R)(hl:s.length<=16777216)(hesc:∀s:List UInt8,s.length<4611686018427387904->PF C 174 [.str s] (encEsc (escU s)))
  (hput:∀{S:St} {R:List Rs} {i c:Nat} {o:SI} {xs:List AV},Hs S R->R[i]? = some (.gr 5 o xs)->c<1114112->xs.length<1099511627776->C 175 [.sl 1 o xs,.int .i64 c] S λr S'=>∃o',r=.ret (.sl 1 o' (xs++ofBytes (encC c)))/\Hs S' (R.set i (.gr 5 o' (xs++ofBytes (encC c))))/\S'.mv=S.mv/\S'.dl=S.dl)
  (hwr:∀{S:St} {R:List Rs} (at_ why:Nat),Hs S R->C 85 [.int .i64 at_,.int .i64 why] S λr S'=>∃id,r=.ret (.ptr id 0)/\Hs S' (R++[wrB id at_ why])/\S'.mv=S.mv/\S'.dl=S.dl) :
  wpF gt C F139 [.str s] S (QPost (quoB s) R S):=by
 refine⟨rfl,?_⟩;have bad:∀{a w id:Nat} {S2:St},quoB s=.bad a w->Hs S2 (R++[wrB id a w])->S2.mv=S.mv->S2.dl=S.dl->QPost (quoB s) R S (.ret (.tup [.str [],.int .i64 0,.ptr id 0])) S2:=λh h1 h2 h3=>by
  rw[h];exact⟨⟨_,rfl,h1⟩,h2,h3⟩
 have less:∀{S2:St} {x:Rs},Hs S2 (R++[x])->Hs S2 R:=λh=>h.less (λx=>x) (λ_ _ _ _ e=>e) λx hx=>by rw[List.getElem?_append_left hx]
 by_cases s0:s=[]
 ·subst s0;refine goW ?_;refine call_rule (by rfl) (hm _ _ _ _ _ (hwr 0 14 hR) ?_);rintro r S2 ⟨id,rfl,h1,h2,h3⟩;refine goW ?_;exact⟨_,rfl,bad rfl h1 h2 h3⟩
 refine goW ?_;rw[beqB_false s0];refine goW ?_;have hpos:0<s.length:=List.length_pos_iff.2 s0;have hg0:s[0]? = some s[0]:=gE hpos;have hq:quoB s=if s[0].toNat=34 then quoL (s.drop 1) 1 [] else .bad 0 13:=by
  cases s with
  | nil=>exact absurd rfl s0
  | cons c r=>rfl
 generalize s[0]=c0 at hg0 hq;have hc0:=u8_lt c0;refine step_ruleO (sx_ixS (k:=0) rfl rfl hg0) (goW ?_);by_cases q0:(c0.toNat:Int)=34
 case neg =>
  rw[neI_true q0];rw[if_neg (by omega)]at hq;refine goW ?_;refine call_rule (by rfl) (hm _ _ _ _ _ (hwr 0 13 hR) ?_);rintro r S2 ⟨id,rfl,h1,h2,h3⟩;refine goW ?_;exact⟨_,rfl,bad hq h1 h2 h3⟩
 rw[neI_false q0];rw[if_pos (by omega)]at hq;refine goW ?_;refine loop_rule hm (α:=Nat) (λi env S'=>∃acc o,Hs S' (R++[.gr 5 o (ofBytes acc)])/\i<=s.length/\acc.length<=4*i/\quoB s=quoL (s.drop i) i acc/\(S'.mv=S.mv/\S'.dl=S.dl)/\env=E_quo s o acc i) (λi=>s.length-i) ?_ (a:=1) ⟨[],_,hR.addNil 5 true,hpos,by simp,hq,⟨rfl,rfl⟩,rfl⟩
 clear hq hR
 rintro i env S' ⟨acc,o,hR,hi,hal,hq,⟨k1,k2⟩,rfl⟩;have hlen:(ofBytes acc).length=acc.length:=by simp[ofBytes]
 have hgr:(R++[Rs.gr 5 o (ofBytes acc)])[R.length]? = some (.gr 5 o (ofBytes acc)):=by simp
 refine goW ?_;by_cases c:(i:Int)<s.length
 case neg =>
  rw[dF c];obtain rfl:i=s.length:=by omega
  rw[List.drop_length,quoL]at hq;refine goW ?_;refine call_rule (by rfl) (hm _ _ _ _ _ (hwr s.length 14 (less hR)) ?_);rintro r S2 ⟨id,rfl,h1,h2,h3⟩;refine goW ?_;exact⟨_,rfl,bad hq h1 (h2.trans k1) (h3.trans k2)⟩
 rw[dT c];have his:i<s.length:=by omega
 have hge:s[i]? = some s[i]:=gE his;rw[dC his,quoL]at hq;generalize s[i]=b at hge hq;have hb:=u8_lt b;refine goW ?_;refine step_ruleO (sx_ixS (k:=i) rfl rfl hge) (goW ?_);by_cases b1:(b.toNat:Int)=34
 ·rw[eqI_true b1];rw[if_pos (by omega)]at hq;refine goW ?_;refine step_ruleO (sx_cvBS rfl ((hR.ok R.length _ hgr).els false 1) (bytes_of acc)) (goW ?_);rw[wrNat (by omega)];refine⟨_,rfl,?_⟩;rw[hq];exact⟨⟨rfl,less hR⟩,k1,k2⟩
 rw[eqI_false b1];rw[if_neg (by omega)]at hq;refine goW ?_;by_cases b2:(b.toNat:Int)<32
 ·rw[dT b2];rw[if_pos (by omega)]at hq;refine goW ?_;refine call_rule (by rfl) (hm _ _ _ _ _ (hwr i 13 (less hR)) ?_);rintro r S2 ⟨id,rfl,h1,h2,h3⟩;refine goW ?_;exact⟨_,rfl,bad hq h1 (h2.trans k1) (h3.trans k2)⟩
 rw[dF b2];rw[if_neg (by omega)]at hq;refine goW ?_;by_cases b3:(b.toNat:Int)=92
 ·rw[eqI_true b3];rw[if_pos (by omega)]at hq;have hes:=hesc (s.drop (i+1)) (by rw[lD];omega);have hel:=@escU_len (s.drop (i+1));rw[lD]at hel;refine goW ?_;rw[wrNat (by omega)];refine step_ruleO (sx_slLo (l:=i+1) rfl rfl (by omega)) (goW ?_);refine call_pf hm (by rfl) hes ?_;cases he:escU (s.drop (i+1)) with
  | none =>
   rw[he]at hq;simp only[encEsc];refine goW ?_;refine call_rule (by rfl) (hm _ _ _ _ _ (hwr i 11 (less hR)) ?_);rintro r S2 ⟨id,rfl,h1,h2,h3⟩;refine goW ?_;exact⟨_,rfl,bad hq h1 (h2.trans k1) (h3.trans k2)⟩
  | some p =>
   obtain⟨ch,n⟩:=p;have hel:=hel he;rw[he]at hq;simp only at hel hq;simp only[encEsc];have hec:=encC_len ch;have hput:=hput hR (i:=R.length) (c:=ch) hgr hel.2.2 (by rw[hlen];omega);refine goW ?_;rw[eqI_false (show ¬(n:Int)=0 by omega)];refine goW ?_;refine call_rule (by rfl) (hm _ _ _ _ _ hput ?_);rintro r S2 ⟨o2,rfl,h1,h2,h3⟩;refine goW ?_;rw[wr64 (n:=(1:Int)+n) (by omega) (by omega),wr64 (n:=(i:Int)+(1+n)) (by omega) (by omega)];have e1:ofBytes acc++ofBytes (encC ch)=ofBytes (acc++encC ch):=by simp[ofBytes]
   rw[e1]at h1 ⊢;refine⟨i+1+n,⟨acc++encC ch,o2,by simpa using h1,by omega,by rw[lA];omega,?_,⟨h2.trans k1,h3.trans k2⟩,?_⟩,by omega⟩
   ·rw[hq,List.drop_drop]
   ·rw[show (i:Int)+(1+n)=((i+1+n:Nat):Int) by omega]
 rw[eqI_false b3];rw[if_neg (by omega)]at hq;refine goW ?_;obtain⟨hR2,hsrc⟩:=hR.bldT 5 1;refine r_appK hR2 R.length hgr trivial rfl rfl (hsrc _ _ _) (by rw[hlen];simp;omega) (by rw[hlen];simp;omega) (by decide) (by decide) rfl ?_;intro o2 S2 hR3 hk;have e1:ofBytes acc++(List.replicate 1 (AV.int .u8 0)).set 0 (AV.int .u8 b.toNat)=ofBytes (acc++[b]):=by simp[ofBytes]
 rw[e1]at hR3 ⊢;refine goW ?_;rw[wrNat (by omega)];exact⟨i+1,⟨acc++[b],o2,by simpa using hR3,by omega,by rw[lA];simp;omega,hq,⟨hk.1.trans k1,hk.2.trans k2⟩,rfl⟩,by omega⟩
end

set_option maxHeartbeats 64000000
def simB (b:UInt8):Int:=if b.toNat=34\/b.toNat=92\/b.toNat=47 then b.toNat else if b.toNat=98 then 8 else if b.toNat=102 then 12 else if b.toNat=110 then 10 else if b.toNat=114 then 13 else if b.toNat=116 then 9 else -1
theorem tdivN (c d:Nat):((c:Int).tdiv (d:Int))=((c / d:Nat):Int):=by rw[Int.ofNat_tdiv]
theorem tmodN (c d:Nat):((c:Int).tmod (d:Int))=((c % d:Nat):Int):=by rw[Int.ofNat_tmod]
theorem byteQ {c d h:Nat}(hc:h+c / d<256)(hb:c<1114112){H D:Int}(hH:H=h)(hD:D=d):wr .u8 (wr .i64 (H+wr .i64 ((c:Int).tdiv D)))=((UInt8.ofNat (h+c / d)).toNat:Int):=by
 have hq:c / d<=c:=Nat.div_le_self _ _;rw[hD,tdivN];generalize c / d=q at *;rw[wr64 (n:=(q:Int)) (by omega) (by omega),hH,wr64 (by omega) (by omega),show ((h:Int)+(q:Int))=((h+q:Nat):Int) by push_cast;rfl,wru8 hc,u8N hc]
theorem byteR {c:Nat}:wr .u8 (wr .i64 (128+(c:Int).tmod 64))=((UInt8.ofNat (128+c % 64)).toNat:Int):=by
 rw[show (64:Int)=((64:Nat):Int) from rfl,tmodN,show (128:Int)+((c % 64:Nat):Int)=((128+c % 64:Nat):Int) by push_cast;rfl,wr64 (by omega) (by omega),wru8 (by omega),u8N (by omega)]
theorem byteQR {c d:Nat}(hb:c<1114112){D:Int}(hD:D=d):wr .u8 (wr .i64 (128+(wr .i64 ((c:Int).tdiv D)).tmod 64))=((UInt8.ofNat (128+c / d % 64)).toNat:Int):=by
 have hq:c / d<=c:=Nat.div_le_self _ _;rw[hD,tdivN];generalize c / d=q at *;rw[wr64 (n:=(q:Int)) (by omega) (by omega),byteR]
section
variable {gt:GT}{C:CallT}
theorem hexRU_wp {b:UInt8}:wpF gt C F219 [.int .u8 b.toNat] St.init (Ret (.int .i64 (hexV b))):=by
 have hb:=u8_lt b;have w8:∀n:Nat,n<256->wr .u8 (n:Int)=n:=λn h=>by rw[wr_eq];exact wrap8 h
 refine⟨rfl,?_⟩;refine goW ?_;by_cases a1:(b.toNat:Int) ≥ 48
 ·rw[dT a1];refine goW ?_;by_cases a2:(b.toNat:Int)<=57
  ·rw[dT a2];refine goW ?_;rw[show (b.toNat:Int)-48=((b.toNat-48:Nat):Int) by omega,w8 _ (by omega),wr64 (by omega) (by omega)];refine⟨_,rfl,?_⟩;rw[show hexV b=((b.toNat-48:Nat):Int) by unfold hexV;rw[if_pos (by omega)];omega];exact Ret.sta trivial
  rw[dF a2];refine goW ?_;by_cases a3:(b.toNat:Int) ≥ 97
  ·rw[dT a3];refine goW ?_;by_cases a4:(b.toNat:Int)<=102
   ·rw[dT a4];refine goW ?_;rw[show (b.toNat:Int)-97=((b.toNat-97:Nat):Int) by omega,w8 _ (by omega),wr64 (n:=((b.toNat-97:Nat):Int)) (by omega) (by omega),wr64 (by omega) (by omega)];refine⟨_,rfl,?_⟩;rw[show hexV b=((b.toNat-97:Nat):Int)+10 by unfold hexV;rw[if_neg (by omega),if_pos (by omega)];omega];exact Ret.sta trivial
   rw[dF a4];refine goW ?_;rw[dT (show (b.toNat:Int) ≥ 65 by omega)];refine goW ?_;rw[dF (show ¬(b.toNat:Int)<=70 by omega)];refine goW ?_;refine⟨_,rfl,?_⟩;rw[show hexV b=-1 by unfold hexV;rw[if_neg (by omega),if_neg (by omega),if_neg (by omega)]];exact Ret.sta trivial
  rw[dF a3];refine goW ?_;by_cases a5:(b.toNat:Int) ≥ 65
  ·rw[dT a5];refine goW ?_;by_cases a6:(b.toNat:Int)<=70
   ·rw[dT a6];refine goW ?_;rw[show (b.toNat:Int)-65=((b.toNat-65:Nat):Int) by omega,w8 _ (by omega),wr64 (n:=((b.toNat-65:Nat):Int)) (by omega) (by omega),wr64 (by omega) (by omega)];refine⟨_,rfl,?_⟩;rw[show hexV b=((b.toNat-65:Nat):Int)+10 by unfold hexV;rw[if_neg (by omega),if_neg (by omega),if_pos (by omega)];omega];exact Ret.sta trivial
   rw[dF a6];refine goW ?_;refine⟨_,rfl,?_⟩;rw[show hexV b=-1 by unfold hexV;rw[if_neg (by omega),if_neg (by omega),if_neg (by omega)]];exact Ret.sta trivial
  rw[dF a5];refine goW ?_;refine⟨_,rfl,?_⟩;rw[show hexV b=-1 by unfold hexV;rw[if_neg (by omega),if_neg (by omega),if_neg (by omega)]];exact Ret.sta trivial
 rw[dF a1];refine goW ?_;rw[dF (show ¬(b.toNat:Int) ≥ 97 by omega)];refine goW ?_;rw[dF (show ¬(b.toNat:Int) ≥ 65 by omega)];refine goW ?_;refine⟨_,rfl,?_⟩;rw[show hexV b=-1 by unfold hexV;rw[if_neg (by omega),if_neg (by omega),if_neg (by omega)]];exact Ret.sta trivial
theorem simple_wp {b:UInt8}:wpF gt C F202 [.int .u8 b.toNat] St.init (Ret (.int .i64 (simB b))):=by
 have hb:=u8_lt b;refine⟨rfl,?_⟩;refine goW ?_;by_cases e34:(b.toNat:Int)=34
 ·rw[eqI_true e34];refine goW ?_;rw[wr64 (by omega) (by omega)];refine⟨_,rfl,?_⟩;rw[show simB b=(b.toNat:Int) by unfold simB;rw[if_pos (by omega)]];exact Ret.sta trivial
 rw[eqI_false e34];refine goW ?_;by_cases e92:(b.toNat:Int)=92
 ·rw[eqI_true e92];refine goW ?_;rw[wr64 (by omega) (by omega)];refine⟨_,rfl,?_⟩;rw[show simB b=(b.toNat:Int) by unfold simB;rw[if_pos (by omega)]];exact Ret.sta trivial
 rw[eqI_false e92];refine goW ?_;by_cases e47:(b.toNat:Int)=47
 ·rw[eqI_true e47];refine goW ?_;rw[wr64 (by omega) (by omega)];refine⟨_,rfl,?_⟩;rw[show simB b=(b.toNat:Int) by unfold simB;rw[if_pos (by omega)]];exact Ret.sta trivial
 rw[eqI_false e47];refine goW ?_;by_cases e98:(b.toNat:Int)=98
 ·rw[eqI_true e98];refine goW ?_;refine⟨_,rfl,?_⟩;rw[show simB b=8 by unfold simB;rw[if_neg (by omega),if_pos (by omega)]];exact Ret.sta trivial
 rw[eqI_false e98];refine goW ?_;by_cases e102:(b.toNat:Int)=102
 ·rw[eqI_true e102];refine goW ?_;refine⟨_,rfl,?_⟩;rw[show simB b=12 by unfold simB;rw[if_neg (by omega),if_neg (by omega),if_pos (by omega)]];exact Ret.sta trivial
 rw[eqI_false e102];refine goW ?_;by_cases e110:(b.toNat:Int)=110
 ·rw[eqI_true e110];refine goW ?_;refine⟨_,rfl,?_⟩;rw[show simB b=10 by unfold simB;rw[if_neg (by omega),if_neg (by omega),if_neg (by omega),if_pos (by omega)]];exact Ret.sta trivial
 rw[eqI_false e110];refine goW ?_;by_cases e114:(b.toNat:Int)=114
 ·rw[eqI_true e114];refine goW ?_;refine⟨_,rfl,?_⟩;rw[show simB b=13 by unfold simB;rw[if_neg (by omega),if_neg (by omega),if_neg (by omega),if_neg (by omega),if_pos (by omega)]];exact Ret.sta trivial
 rw[eqI_false e114];refine goW ?_;by_cases e116:(b.toNat:Int)=116
 ·rw[eqI_true e116];refine goW ?_;refine⟨_,rfl,?_⟩;rw[show simB b=9 by unfold simB;rw[if_neg (by omega),if_neg (by omega),if_neg (by omega),if_neg (by omega),if_neg (by omega),if_pos (by omega)]];exact Ret.sta trivial
 rw[eqI_false e116];refine goW ?_;refine⟨_,rfl,?_⟩;rw[show simB b=-1 by unfold simB;rw[if_neg (by omega),if_neg (by omega),if_neg (by omega),if_neg (by omega),if_neg (by omega),if_neg (by omega)]];exact Ret.sta trivial
abbrev E_nmb (s:List UInt8)(at_ k n i:Int):Env:=[(0,.val (.str s)),(1,.val (.int .i64 at_)),(2,.val (.int .i64 k)),(7,.val (.int .i64 n)),(8,.val (.int .i64 i))]
theorem number_wp (hm:MonoC C)(hv:∀b:UInt8,PF C 219 [.int .u8 b.toNat] (.int .i64 (hexV b))){s:List UInt8}{p k:Nat}(hk:k<=4)(hp:p<4611686018427387904)(hl:s.length<4611686018427387904):wpF gt C F203 [.str s,.int .i64 p,.int .i64 k] St.init (Ret (.int .i64 (numH (s.drop p) k 0))):=by
 refine⟨rfl,?_⟩;refine goW ?_;refine loop_rule hm (α:=Nat) (λi env S'=>∃n:Nat,i<=k/\n<16 ^ i/\numH (s.drop p) k 0=numH (s.drop (p+i)) (k-i) n/\env=E_nmb s p k n i/\S'=St.init) (λi=>k-i) ?_ (a:=0) ⟨0,Nat.zero_le _,by simp,rfl,rfl,rfl⟩;rintro i env S' ⟨n,hi,hn,hq,rfl,rfl⟩;refine goW ?_;by_cases c2:(i:Int)<k
 case neg =>
  rw[dF c2];obtain rfl:k=i:=by omega
  rw[Nat.sub_self,numH]at hq;refine goW ?_;refine⟨_,rfl,?_⟩;rw[hq];exact Ret.sta trivial
 rw[dT c2];refine goW ?_;rw[wr64 (n:=(p:Int)+i) (by omega) (by omega)];by_cases c3:(p:Int)+i ≥ s.length
 ·rw[dT c3];refine goW ?_;refine⟨_,rfl,?_⟩;rw[numH_short (s:=s.drop p) (by rw[lD];omega)];exact Ret.sta trivial
 rw[dF c3];have his:p+i<s.length:=by omega
 have hge:s[p+i]? = some s[p+i]:=gE his;rw[dC his,show k-i=(k-(i+1))+1 by omega,numH]at hq;have hb:=hexV_bd s[p+i];have hv:=hv s[p+i];generalize s[p+i]=b at hge hq hb hv;have ei:(p:Int)+i=((p+i:Nat):Int):=by push_cast;rfl
 refine goW ?_;rw[wr64 (n:=(p:Int)+i) (by omega) (by omega),ei];refine st_any (by exact rfl) (sx_ixS (k:=p+i) rfl rfl hge) (goW ?_);refine call_pf hm (by rfl) hv (goW ?_);by_cases c4:hexV b<0
 ·rw[dT c4];rw[if_pos c4]at hq;refine goW ?_;refine⟨_,rfl,?_⟩;rw[hq];exact Ret.sta trivial
 rw[dF c4];rw[if_neg c4]at hq;obtain⟨q,hqq⟩:∃q:Nat,hexV b=q:=⟨(hexV b).toNat,by omega⟩
 rw[hqq]at hq hb hv;rw[Int.toNat_natCast]at hq;have h16:16 ^ (i+1)<=16 ^ 4:=Nat.pow_le_pow_right (by decide) (by omega);have h17:(n+1)*16<=16 ^ (i+1):=by rw[Nat.pow_succ];exact Nat.mul_le_mul_right _ hn
 have e4:(16:Nat) ^ 4=65536:=by decide
 generalize hpw:16 ^ (i+1)=pw at h16 h17;generalize (16:Nat) ^ 4=p4 at h16 e4;refine goW ?_;rw[wr64 (n:=(p:Int)+i) (by omega) (by omega),ei];refine step_ruleO (sx_ixS (k:=p+i) rfl rfl hge) (goW ?_);refine call_pf hm (by rfl) hv (goW ?_);rw[wr64 (n:=(n:Int)*16) (by omega) (by omega),wr64 (n:=(n:Int)*16+q) (by omega) (by omega),wrNat (by omega),show (n:Int)*16+q=((n*16+q:Nat):Int) by push_cast;rfl];exact⟨i+1,⟨n*16+q,by omega,by omega,by rw[hq];rfl,rfl,rfl⟩,by omega⟩
theorem byte_wp {c:Nat}(hc:c<1114112):wpF gt C F183 [.int .i64 c] St.init (Ret (.str (encC c))):=by
 refine⟨rfl,?_⟩;refine goW ?_;by_cases c1:(c:Int)<128
 ·have hE:encC c=[UInt8.ofNat c]:=by unfold encC;rw[if_pos (by omega)]
  rw[dT c1,hE];refine goW ?_;rw[show wr .u8 (c:Int)=((UInt8.ofNat c).toNat:Int) by rw[wru8 (by omega),u8N (by omega)]];simp only[Int.toNat_natCast,UInt8.ofNat_toNat];refine⟨_,rfl,?_⟩;exact Ret.sta trivial
 rw[dF c1];refine goW ?_;by_cases c2:(c:Int)<2048
 ·have hE:encC c=[UInt8.ofNat (192+c / 64),UInt8.ofNat (128+c % 64)]:=by unfold encC;rw[if_neg (by omega),if_pos (by omega)]
  rw[dT c2,hE];refine goW ?_;rw[byteQ (c:=c) (d:=64) (h:=192) (H:=192) (D:=64) (by omega) hc rfl rfl,byteR (c:=c)];simp only[Int.toNat_natCast,UInt8.ofNat_toNat];refine⟨_,rfl,?_⟩;exact Ret.sta trivial
 rw[dF c2];generalize hK:(65536:Int)=K;refine goW ?_;by_cases c3:(c:Int)<K
 ·have hE:encC c=[UInt8.ofNat (224+c / 4096),UInt8.ofNat (128+c / 64 % 64),UInt8.ofNat (128+c % 64)]:=by unfold encC;rw[if_neg (by omega),if_neg (by omega),if_pos (by omega)]
  rw[dT c3,hE];refine goW ?_;rw[byteQ (c:=c) (d:=4096) (h:=224) (H:=224) (D:=4096) (by omega) hc rfl rfl,byteQR (c:=c) (d:=64) (D:=64) hc rfl,byteR (c:=c)];simp only[Int.toNat_natCast,UInt8.ofNat_toNat];refine⟨_,rfl,?_⟩;exact Ret.sta trivial
 rw[dF c3];have hE:encC c=[UInt8.ofNat (240+c / 262144),UInt8.ofNat (128+c / 4096 % 64),UInt8.ofNat (128+c / 64 % 64),UInt8.ofNat (128+c % 64)]:=by unfold encC;rw[if_neg (by omega),if_neg (by omega),if_neg (by omega)]
 rw[hE];refine goW ?_;rw[byteQ (c:=c) (d:=262144) (h:=240) (H:=240) (D:=262144) (by omega) hc rfl rfl,byteQR (c:=c) (d:=4096) (D:=4096) hc rfl,byteQR (c:=c) (d:=64) (D:=64) hc rfl,byteR (c:=c)];simp only[Int.toNat_natCast,UInt8.ofNat_toNat];refine⟨_,rfl,?_⟩;exact Ret.sta trivial
end

set_option maxHeartbeats 64000000
theorem escB_sim (c:UInt8)(r:List UInt8):escU (c::r)=if 0<=simB c then some ((simB c).toNat,1) else if c.toNat=117 then pairB r else none:=by
 have e1:simB c=if c.toNat=34\/c.toNat=92\/c.toNat=47 then (c.toNat:Int) else if c.toNat=98 then 8 else if c.toNat=102 then 12 else if c.toNat=110 then 10 else if c.toNat=114 then 13 else if c.toNat=116 then 9 else -1:=rfl
 by_cases h34:c.toNat=34\/c.toNat=92\/c.toNat=47
 ·rw[if_pos h34]at e1;rw[e1,if_pos (by omega),Int.toNat_natCast];simp only[escU];rw[if_pos h34]
 rw[if_neg h34]at e1;by_cases h:c.toNat=98
 ·rw[if_pos h]at e1;rw[e1];simp[escU,h]
 rw[if_neg h]at e1;by_cases h3:c.toNat=102
 ·rw[if_pos h3]at e1;rw[e1];simp[escU,h3]
 rw[if_neg h3]at e1;by_cases h2:c.toNat=110
 ·rw[if_pos h2]at e1;rw[e1];simp[escU,h2]
 rw[if_neg h2]at e1;by_cases h4:c.toNat=114
 ·rw[if_pos h4]at e1;rw[e1];simp[escU,h4]
 rw[if_neg h4]at e1;by_cases h1:c.toNat=116
 ·rw[if_pos h1]at e1;rw[e1];simp[escU,h1]
 rw[if_neg h1]at e1;rw[e1,if_neg (show ¬(0:Int)<=-1 by decide)];simp only[escU];rw[if_neg h34,if_neg h,if_neg h1,if_neg h2,if_neg h3,if_neg h4]
def encEscR:Option (Nat×Nat)->AV
 | some p=>.tup [.int .i64 p.1,.int .i64 ((p.2+1:Nat):Int)]
 | none=>.tup [.int .i64 0,.int .i64 0]
theorem sta_escR (x:Option (Nat×Nat)):Sta (encEscR x):=by cases x<;>exact⟨trivial,trivial,trivial⟩
theorem pre2 {x y:UInt8}{z:List UInt8}:decide ([92,117] <+: x::y::z)=(decide (x.toNat=92) && decide (y.toNat=117)):=by
 have hx:(x.toNat=92)↔x=92:=⟨λh=>UInt8.toNat_inj.1 h,λh=>by rw[h];rfl⟩
 have hy:(y.toNat=117)↔y=117:=⟨λh=>UInt8.toNat_inj.1 h,λh=>by rw[h];rfl⟩
 have e:([92,117] <+: x::y::z)↔(x.toNat=92/\y.toNat=117):=by
  rw[hx,hy,List.cons_prefix_cons,List.cons_prefix_cons];constructor
  ·rintro⟨h1,h2,_⟩;exact⟨h1.symm,h2.symm⟩
  ·rintro⟨h1,h2⟩;exact⟨h1.symm,h2.symm,List.nil_prefix⟩
 by_cases h1:x.toNat=92<;>by_cases h2:y.toNat=117<;>simp[e,h1,h2]
section
variable {gt:GT}{C:CallT}
theorem escape_wp (hm:MonoC C)(hsim:∀b:UInt8,PF C 202 [.int .u8 b.toNat] (.int .i64 (simB b)))(hnum:∀(s:List UInt8) (p:Nat),p<4611686018427387904->s.length<4611686018427387904->PF C 203 [.str s,.int .i64 p,.int .i64 4] (.int .i64 (numH (s.drop p) 4 0)))
  {s:List UInt8} {p:Nat} (hp:p<s.length) (hl:s.length<2305843009213693952):wpF gt C F182 [.str s,.int .i64 p] St.init (Ret (encEscR (escU (s.drop (p+1))))):=by
 have none_:∀{S:St},escU (s.drop (p+1))=none->Ret (encEscR (escU (s.drop (p+1)))) (.ret (.tup [.int .i64 0,.int .i64 0])) S:=λh=>by rw[h];exact Ret.sta (sta_escR none)
 have some_:∀{S:St} {a n:Nat},escU (s.drop (p+1))=some (a,n)->Ret (encEscR (escU (s.drop (p+1)))) (.ret (.tup [.int .i64 a,.int .i64 ((n+1:Nat):Int)])) S:=λ{S a n} h=>by rw[h];exact Ret.sta (sta_escR (some (a,n)))
 have pk1:wr .i64 ((p:Int)+1)=((p+1:Nat):Int):=by rw[wr64 (by omega) (by omega)];push_cast;rfl
 have pk2:wr .i64 ((p:Int)+2)=((p+2:Nat):Int):=by rw[wr64 (by omega) (by omega)];push_cast;rfl
 have pk6:wr .i64 ((p:Int)+6)=((p+6:Nat):Int):=by rw[wr64 (by omega) (by omega)];push_cast;rfl
 have pk7:wr .i64 ((p:Int)+7)=((p+7:Nat):Int):=by rw[wr64 (by omega) (by omega)];push_cast;rfl
 have pk8:wr .i64 ((p:Int)+8)=((p+8:Nat):Int):=by rw[wr64 (by omega) (by omega)];push_cast;rfl
 refine⟨rfl,?_⟩;refine goW ?_;rw[pk1];by_cases c0:((p+1:Nat):Int) ≥ s.length
 ·rw[dT c0];refine goW ?_;exact⟨_,rfl,none_ (by rw[List.drop_eq_nil_of_le (by omega)];rfl)⟩
 rw[dF c0];have his:p+1<s.length:=by omega
 have hge:s[p+1]? = some s[p+1]:=gE his;have he:escU (s.drop (p+1))=if 0<=simB s[p+1] then some ((simB s[p+1]).toNat,1) else if s[p+1].toNat=117 then pairB (s.drop (p+2)) else none:=by rw[dC his,escB_sim]
 have hsim:=hsim s[p+1];have hb:=u8_lt s[p+1];generalize s[p+1]=b at hge he hsim hb;refine goW ?_;rw[pk1];refine step_ruleO (sx_ixS (k:=p+1) rfl rfl hge) (goW ?_);refine call_pf hm (by rfl) hsim (goW ?_);by_cases c1:simB b ≥ 0
 ·rw[dT c1];rw[if_pos c1]at he;have hfin:=some_ (S:=St.init) he;rw[Int.toNat_of_nonneg c1]at hfin;refine goW ?_;exact⟨_,rfl,hfin⟩
 rw[dF c1];rw[if_neg c1]at he;refine goW ?_;rw[pk1];refine step_ruleO (sx_ixS (k:=p+1) rfl rfl hge) (goW ?_);by_cases c2:(b.toNat:Int)=117
 case neg =>
  rw[neI_true c2];rw[if_neg (by omega)]at he;refine goW ?_;exact⟨_,rfl,none_ he⟩
 rw[neI_false c2];rw[if_pos (by omega)]at he;have e16:(((0+1)*16 ^ 4:Nat):Int)=65536:=by decide
 have b1:=numH_bd (s:=s.drop (p+2)) (k:=4) (n:=0);have b2:=numH_bd (s:=s.drop (p+8)) (k:=4) (n:=0);rw[e16,lD]at b1 b2;have h1:=hnum s (p+2) (by omega) (by omega);have h2:=hnum s (p+8) (by omega) (by omega);have hpb:pairB (s.drop (p+2))=if numH (s.drop (p+2)) 4 0<0 then none else if numH (s.drop (p+2)) 4 0<55296\/numH (s.drop (p+2)) 4 0 > 57343 then some ((numH (s.drop (p+2)) 4 0).toNat,5) else if numH (s.drop (p+2)) 4 0 ≥ 56320\/decide ([92,117] <+: s.drop (p+6))=false then none else
  if numH (s.drop (p+8)) 4 0<56320\/numH (s.drop (p+8)) 4 0 > 57343 then none else some ((65536+(numH (s.drop (p+2)) 4 0-55296)*1024+numH (s.drop (p+8)) 4 0-56320).toNat,11):=by
  unfold pairB;simp only[List.drop_drop]
 rw[hpb]at he
 clear hpb
 generalize numH (s.drop (p+2)) 4 0=a at *;generalize numH (s.drop (p+8)) 4 0=q at *;refine goW ?_;rw[pk2];refine call_pf hm (by rfl) h1 (goW ?_);by_cases a0:a<0
 ·rw[dT a0];rw[if_pos a0]at he;refine goW ?_;exact⟨_,rfl,none_ he⟩
 rw[dF a0];rw[if_neg a0]at he;refine goW ?_;have six:(a<55296\/a > 57343)->Ret (encEscR (escU (s.drop (p+1)))) (.ret (.tup [.int .i64 a,.int .i64 6])) St.init:=λh=>by
  rw[if_pos h]at he;have hfin:=some_ (S:=St.init) he;rw[Int.toNat_of_nonneg (by omega)]at hfin;exact hfin
 by_cases a1:a<55296
 ·rw[dT a1];have hfin:=six (.inl a1);refine goW ?_;exact⟨_,rfl,hfin⟩
 rw[dF a1];refine goW ?_;by_cases a2:a > 57343
 ·rw[dT a2];have hfin:=six (.inr a2);refine goW ?_;exact⟨_,rfl,hfin⟩
 rw[dF a2]
 clear six
 rw[if_neg (by omega)]at he;refine goW ?_;by_cases a3:a > 56319
 ·rw[dT a3];rw[if_pos (.inl (by omega))]at he;refine goW ?_;exact⟨_,rfl,none_ he⟩
 rw[dF a3];refine goW ?_;rw[pk7];by_cases a4:((p+7:Nat):Int) ≥ s.length
 ·rw[dT a4];rw[if_pos (.inr (dF λh=>by have:=h.length_le;simp only[lC,lN,lD]at this;omega))]at he;refine goW ?_;exact⟨_,rfl,none_ he⟩
 rw[dF a4];have i6:p+6<s.length:=by omega
 have i7:p+7<s.length:=by omega
 have g6:s[p+6]? = some s[p+6]:=gE i6;have g7:s[p+7]? = some s[p+7]:=gE i7;rw[dC i6,show p+6+1=p+7 from rfl,dC i7,pre2]at he;have l6:=u8_lt s[p+6];have l7:=u8_lt s[p+7];generalize s[p+6]=x6 at *;generalize s[p+7]=x7 at *;refine goW ?_;rw[pk6];refine st_any (by exact rfl) (sx_ixS (k:=p+6) rfl rfl g6) (goW ?_);by_cases a5:(x6.toNat:Int)=92
 case neg =>
  rw[neI_true a5];rw[if_pos (.inr (by rw[dF (by omega),Bool.false_and]))]at he;refine goW ?_;exact⟨_,rfl,none_ he⟩
 rw[neI_false a5];refine goW ?_;rw[pk7];refine st_any (by exact rfl) (sx_ixS (k:=p+7) rfl rfl g7) (goW ?_);by_cases a6:(x7.toNat:Int)=117
 case neg =>
  rw[neI_true a6];rw[if_pos (.inr (by rw[dF (p:=x7.toNat=117) (by omega),Bool.and_false]))]at he;refine goW ?_;exact⟨_,rfl,none_ he⟩
 rw[neI_false a6];rw[if_neg (by rw[dT (show x6.toNat=92 by omega),dT (show x7.toNat=117 by omega)];simp;omega)]at he;refine goW ?_;rw[pk8];refine call_pf hm (by rfl) h2 (goW ?_);by_cases q1:q<56320
 ·rw[dT q1];rw[if_pos (.inl q1)]at he;refine goW ?_;exact⟨_,rfl,none_ he⟩
 rw[dF q1];refine goW ?_;by_cases q2:q > 57343
 ·rw[dT q2];rw[if_pos (.inr q2)]at he;refine goW ?_;exact⟨_,rfl,none_ he⟩
 rw[dF q2];rw[if_neg (by omega)]at he;have hfin:=some_ (S:=St.init) he;rw[Int.toNat_of_nonneg (by omega)]at hfin;refine goW ?_;rw[wr64 (n:=a-55296) (by omega) (by omega),wr64 (n:=(a-55296)*1024) (by omega) (by omega),wr64 (n:=65536+(a-55296)*1024) (by omega) (by omega),wr64 (n:=65536+(a-55296)*1024+q) (by omega) (by omega),wr64 (n:=65536+(a-55296)*1024+q-56320) (by omega) (by omega)];exact⟨_,rfl,hfin⟩
end

set_option maxHeartbeats 64000000
def QR.up (k:Nat):QR->QR
 |.ok t n=>.ok t (n+k)
 |.bad a w=>.bad (a+k) w
theorem quoL_shift (k:Nat):∀(n:Nat) (rest:List UInt8) (i:Nat) (acc:List UInt8),rest.length=n->quoL rest (i+k) acc=(quoL rest i acc).up k:=by
 intro n
 induction n using Nat.strongRecOn with
 | _ n ih =>
  intro rest i acc hn;cases rest with
  | nil=>rw[quoL,quoL];rfl
  | cons c r =>
   simp only[lC]at hn;rw[quoL,quoL];split
   ·simp only[QR.up,QR.ok.injEq,true_and];omega
   split
   ·rfl
   split
   ·cases escU r with
    | none=>rfl
    | some p =>
     simp only;rw[show i+k+1+p.2=(i+1+p.2)+k by omega];exact ih _ (by rw[lD];omega) _ _ _ rfl
   ·rw[show i+k+1=(i+1)+k by omega];exact ih _ (by omega) _ _ _ rfl
theorem quoB_at {s:List UInt8}{k:Nat}{c:UInt8}(h:s[k]? = some c)(hc:c.toNat=34):(quoB (s.drop k)).up k=quoL (s.drop (k+1)) (k+1) []:=by
 have hk:k<s.length:=by
  rcases Nat.lt_or_ge k s.length with h1 | h1
  ·exact h1
  ·rw[List.getElem?_eq_none h1]at h;cases h
 rw[gE hk]at h;cases h;rw[dC hk];show (if s[k].toNat=34 then quoL (s.drop (k+1)) 1 [] else .bad 0 13).up k=_;rw[if_pos hc];have:=quoL_shift k _ (s.drop (k+1)) 1 [] rfl;rw[show 1+k=k+1 by omega]at this;exact this.symm
def encW:QR->AV
 |.ok t n=>.tup [.str t,.int .i64 n,.agg [.int .i64 0,.int .i64 0]]
 |.bad a w=>.tup [.str [],.int .i64 0,.agg [.int .i64 a,.int .i64 w]]
theorem sta_W (x:QR):Sta (encW x):=by cases x<;>simp[encW,Sta,Stas]
section
variable {gt:GT}{C:CallT}
abbrev E_wi (s:List UInt8)(o:SI)(acc:List UInt8)(i:Int):Env:=[(0,.val (.str s)),(6,.box [.int .i64 0,.int .i64 0]),(7,.val (.sl 1 o (ofBytes acc))),(8,.val (.int .i64 i))]
theorem within1_wp (hm:MonoC C){s:List UInt8}{p:Nat}(hl:s.length<=16777216)(hp:p<s.length)(hesc:∀p:Nat,p<s.length->PF C 182 [.str s,.int .i64 p] (encEscR (escU (s.drop (p+1)))))
  (hby:∀c:Nat,c<1114112->PF C 183 [.int .i64 c] (.str (encC c))) :
  wpF gt C F154 [.str s,.int .i64 p] St.init (Ret (encW (quoL (s.drop (p+1)) (p+1) []))):=by
 have fin:∀{q:QR} {S:St},quoL (s.drop (p+1)) (p+1) []=q->Ret (encW (quoL (s.drop (p+1)) (p+1) [])) (.ret (encW q)) S:=λh=>by rw[h];exact Ret.sta (sta_W _)
 generalize hL:quoL (s.drop (p+1)) (p+1) []=L at fin ⊢;refine⟨rfl,?_⟩;refine goW ?_;rw[wrNat (by omega)];refine loop_rule hm (α:=Nat) (λi env S'=>∃acc o,Hs S' [.gr 5 o (ofBytes acc)]/\i<=s.length/\acc.length<=4*i/\L=quoL (s.drop i) i acc/\env=E_wi s o acc i) (λi=>s.length-i) ?_ (a:=p+1) ⟨[],_,Hs.init.addNil 5 false,by omega,by simp,hL.symm,rfl⟩
 clear hL
 rintro i env S' ⟨acc,o,hR,hi,hal,hq,rfl⟩;have hlen:(ofBytes acc).length=acc.length:=by simp[ofBytes]
 refine goW ?_;by_cases c:(i:Int)<s.length
 case neg =>
  rw[dF c];obtain rfl:i=s.length:=by omega
  rw[List.drop_length,quoL]at hq;refine goW ?_;exact⟨_,rfl,fin hq⟩
 rw[dT c];have his:i<s.length:=by omega
 have hge:s[i]? = some s[i]:=gE his;rw[dC his,quoL]at hq;generalize s[i]=b at hge hq;have hb:=u8_lt b;refine goW ?_;refine step_ruleO (sx_ixS (k:=i) rfl rfl hge) (goW ?_);by_cases b1:(b.toNat:Int)=34
 ·rw[eqI_true b1];rw[if_pos (by omega)]at hq;refine goW ?_;refine step_ruleO (sx_cvBS rfl ((hR.ok 0 _ rfl).els false 1) (bytes_of acc)) (goW ?_);rw[wrNat (by omega)];exact⟨_,rfl,fin hq⟩
 rw[eqI_false b1];rw[if_neg (by omega)]at hq;refine goW ?_;by_cases b3:(b.toNat:Int)=92
 ·rw[eqI_true b3];rw[if_neg (by omega),if_pos (by omega)]at hq;have hes:=hesc i his;have hel:=@escU_len (s.drop (i+1));rw[lD]at hel;cases he:escU (s.drop (i+1)) with
  | none =>
   rw[he]at hq hes;simp only[encEscR]at hes;refine goW ?_;refine call_pf hm (by rfl) hes (goW ?_);exact⟨_,rfl,fin hq⟩
  | some pr =>
   obtain⟨ch,n⟩:=pr;have hel:=hel he;rw[he]at hq hes;simp only[encEscR]at hes;simp only at hel hq;have hec:=encC_len ch;have hby:=hby ch hel.2.2;refine goW ?_;refine call_pf hm (by rfl) hes (goW ?_);rw[eqI_false (show ¬((n+1:Nat):Int)=0 by omega)];refine goW ?_;refine call_pf hm (by rfl) hby (goW ?_);refine r_app hR 0 rfl trivial rfl rfl (ys:=ofBytes (encC ch)) rfl (by rw[hlen];simp[ofBytes];omega) (by rw[hlen];simp[ofBytes];omega) (by decide) (by decide) (by simp[ofBytes,AV.cells,ok1]) ?_;intro o2 S2 hR2;have e1:ofBytes acc++ofBytes (encC ch)=ofBytes (acc++encC ch):=by simp[ofBytes]
   rw[e1]at hR2 ⊢;refine goW ?_;rw[wr64 (n:=(i:Int)+((n+1:Nat):Int)) (by omega) (by omega),show (i:Int)+((n+1:Nat):Int)=((i+1+n:Nat):Int) by push_cast;omega];refine⟨i+1+n,⟨acc++encC ch,o2,by simpa using hR2,by omega,by rw[lA];omega,?_,rfl⟩,by omega⟩;rw[hq,List.drop_drop]
 rw[eqI_false b3];refine goW ?_;by_cases b2:(b.toNat:Int)<32
 ·rw[dT b2];rw[if_pos (by omega)]at hq;refine goW ?_;exact⟨_,rfl,fin hq⟩
 rw[dF b2];rw[if_neg (by omega),if_neg (by omega)]at hq;refine goW ?_;obtain⟨hR2,hsrc⟩:=hR.bldT 5 1;refine r_app hR2 0 rfl trivial rfl rfl (hsrc _ _ _) (by rw[hlen];simp;omega) (by rw[hlen];simp;omega) (by decide) (by decide) rfl ?_;intro o2 S2 hR3;have e1:ofBytes acc++(List.replicate 1 (AV.int .u8 0)).set 0 (AV.int .u8 b.toNat)=ofBytes (acc++[b]):=by simp[ofBytes]
 rw[e1]at hR3 ⊢;refine goW ?_;rw[wrNat (by omega)];exact⟨i+1,⟨acc++[b],o2,by simpa using hR3,by omega,by rw[lA];simp;omega,hq,rfl⟩,by omega⟩
end
end Go.Dn

namespace Go.Dn
open Go Go.Proofs.C1
set_option maxRecDepth 100000
inductive PR where
 | ok (t:PT) (i n:Nat)
 | bad (i:Nat) (w:Int)
def rowE (p:UInt8->Bool)(s:List UInt8)(i:Nat):Nat:=i+((s.drop i).takeWhile p).length
theorem rowE_in {p:UInt8->Bool}{s:List UInt8}{i:Nat}{c:UInt8}(h:s[i]? = some c)(hc:p c=true):rowE p s i=rowE p s (i+1):=by
 obtain⟨hi,rfl⟩:=List.getElem?_eq_some_iff.1 h;unfold rowE;rw[dC hi,List.takeWhile_cons_of_pos hc,lC];omega
theorem rowE_out {p:UInt8->Bool}{s:List UInt8}{i:Nat}{c:UInt8}(h:s[i]? = some c)(hc:p c=false):rowE p s i=i:=by
 obtain⟨hi,rfl⟩:=List.getElem?_eq_some_iff.1 h;unfold rowE;rw[dC hi,List.takeWhile_cons_of_neg (by rw[hc];exact Bool.false_ne_true)];rfl
theorem rowE_end {p:UInt8->Bool}{s:List UInt8}{i:Nat}(h:s.length<=i):rowE p s i=i:=by
 unfold rowE;rw[List.drop_eq_nil_of_le h];rfl
theorem rowE_ge {p:UInt8->Bool}{s:List UInt8}{i:Nat}:i<=rowE p s i:=Nat.le_add_right _ _
theorem takeWhile_le (p:UInt8->Bool):∀l:List UInt8,(l.takeWhile p).length<=l.length
 | []=>nR _
 | a::l=>by
  rw[List.takeWhile_cons];split
  ·rw[lC,lC];have:=takeWhile_le p l;omega
  ·exact Nat.zero_le _
theorem rowE_le {p:UInt8->Bool}{s:List UInt8}{i:Nat}(h:i<=s.length):rowE p s i<=s.length:=by
 have:=takeWhile_le p (s.drop i);rw[lD]at this;unfold rowE;omega
def digC (c:UInt8):Bool:=Nat.ble 48 c.toNat && Nat.ble c.toNat 57
def letC (c:UInt8):Bool:=(Nat.ble 97 c.toNat && Nat.ble c.toNat 122) || (Nat.ble 65 c.toNat && Nat.ble c.toNat 90)
def blaC (c:UInt8):Bool:=Nat.beq c.toNat 9 || Nat.beq c.toNat 10 || Nat.beq c.toNat 13 || Nat.beq c.toNat 32
def numC (c:UInt8):Bool:=digC c || letC c || Nat.beq c.toNat 43 || Nat.beq c.toNat 45 || Nat.beq c.toNat 46
def timC (c:UInt8):Bool:=numC c || Nat.beq c.toNat 58
def midP (s:List UInt8)(i j:Nat):List UInt8:=(s.drop i).take (j-i)
def isC (s:List UInt8)(i c:Nat):Bool:=match s[i]? with | some b=>Nat.beq b.toNat c | none=>false
def errP (s:List UInt8)(i:Nat):PR:=if i<s.length then .bad i 13 else .bad s.length 14
def nodP (deep i n:Nat)(x:PR):PR:=if 64<deep then .bad i 4 else if 4096<n+1 then .bad i 3 else x
abbrev w4null:List UInt8:=[110,117,108,108]
abbrev w4true:List UInt8:=[116,114,117,101]
abbrev w5false:List UInt8:=[102,97,108,115,101]
def scaP (s:List UInt8)(deep i n:Nat)(c:UInt8):PR :=
 if (digC c || Nat.beq c.toNat 45)=true then
  if (normB (midP s i (rowE numC s i))).2=0 then nodP deep i n (.ok (.mk 3 (normB (midP s i (rowE numC s i))).1 [] []) (rowE numC s i) (n+1))
  else .bad i (normB (midP s i (rowE numC s i))).2
 else if letC c=true then
  if midP s i (rowE letC s i)=w4null then nodP deep i n (.ok (.mk 1 [] [] []) (rowE letC s i) (n+1))
  else if midP s i (rowE letC s i)=w4true\/midP s i (rowE letC s i)=w5false then nodP deep i n (.ok (.mk 2 (midP s i (rowE letC s i)) [] []) (rowE letC s i) (n+1))
  else .bad i 13
 else .bad i 13
mutual
def treeP (s:List UInt8):Nat->Nat->Nat->Nat->PR
 | 0,_,_,_=>.bad 0 99
 | f+1,deep,i,n =>
  match s[i]? with
  | none=>.bad s.length 14
  | some c =>
   if c.toNat=34 then nodP deep i n (match quoB (s.drop i) with |.ok t k=>.ok (.mk 4 t [] []) (i+k) (n+1) |.bad a w=>.bad (i+a) w)
   else if c.toNat=91 then nodP deep i n (if isC s (rowE blaC s (i+1)) 93=true then .ok (.mk 6 [] [] []) (rowE blaC s (i+1)+1) (n+1) else listP s f deep (i+1) (n+1) [])
   else if c.toNat=123 then nodP deep i n (if isC s (rowE blaC s (i+1)) 125=true then .ok (.mk 7 [] [] []) (rowE blaC s (i+1)+1) (n+1) else recP s f deep (i+1) (n+1) [] [])
   else if c.toNat=64 then
    if timeB (midP s (i+1) (rowE timC s (i+1)))=true then nodP deep i n (.ok (.mk 5 (midP s (i+1) (rowE timC s (i+1))) [] []) (rowE timC s (i+1)) (n+1)) else .bad i 20
   else scaP s deep i n c
def listP (s:List UInt8):Nat->Nat->Nat->Nat->List PT->PR
 | 0,_,_,_,_=>.bad 0 99
 | f+1,deep,i,n,acc =>
  match treeP s f (deep+1) (rowE blaC s i) n with
  |.bad a w=>.bad a w
  |.ok t e m =>
   if isC s (rowE blaC s e) 44=true then listP s f deep (rowE blaC s e+1) m (acc++[t])
   else if isC s (rowE blaC s e) 93=true then .ok (.mk 6 [] [] (acc++[t])) (rowE blaC s e+1) m
   else errP s (rowE blaC s e)
def recP (s:List UInt8):Nat->Nat->Nat->Nat->List (List UInt8)->List PT->PR
 | 0,_,_,_,_,_=>.bad 0 99
 | f+1,deep,i,n,keys,kids =>
  if isC s (rowE blaC s i) 34=true then
   match quoB (s.drop (rowE blaC s i)) with
   |.bad a w=>.bad (rowE blaC s i+a) w
   |.ok k m =>
    if k∈keys then .bad (rowE blaC s i) 15
    else if isC s (rowE blaC s (rowE blaC s i+m)) 58=true then
     match treeP s f (deep+1) (rowE blaC s (rowE blaC s (rowE blaC s i+m)+1)) n with
     |.bad a w=>.bad a w
     |.ok t e n' =>
      if isC s (rowE blaC s e) 44=true then recP s f deep (rowE blaC s e+1) n' (keys++[k]) (kids++[t])
      else if isC s (rowE blaC s e) 125=true then .ok (.mk 7 [] (keys++[k]) (kids++[t])) (rowE blaC s e+1) n'
      else errP s (rowE blaC s e)
    else errP s (rowE blaC s (rowE blaC s i+m))
  else errP s (rowE blaC s i)
end
theorem isC_lt {s:List UInt8}{i c:Nat}(h:isC s i c=true):i<s.length:=by
 unfold isC at h;split at h
 ·rename_i b hb;exact(List.getElem?_eq_some_iff.1 hb).1
 ·cases h
theorem isC_some {s:List UInt8}{i c:Nat}(h:isC s i c=true):∃b,s[i]? = some b/\b.toNat=c:=by
 unfold isC at h;split at h
 ·rename_i b hb;exact⟨b,hb,bE h⟩
 ·cases h

set_option maxHeartbeats 64000000
section
variable {gt:GT}{C:CallT}
theorem pan_rule {i:DI}{env:Env}{S:St}{K:Env->St->Prop}{Q:Ex->Env->St->Prop}{v:AV}(h:stepI gt i env S=.pan v)(k:Q (.pan v) env S):afterS C i.dst env S K Q (stepI gt i env S):=by
 rw[h];exact k
theorem step_ruleDG {d:Option Nat}{op:DOp}{g:Nat}{w:Bool}{l:Option Nat}{env env':Env}{S S':St}{K:Env->St->Prop}{Q:Ex->Env->St->Prop}(hg:lk env g=some (.val (.bool w)))(h0:isLoc op=false)(h1:conform l env op=true)(h:stepO gt d env S op=.done env' S')(k:K env' S'):afterS C d env S K Q (stepD gt (⟨d,op,some (g,w)⟩,l) env S):=by
 have:stepD gt (⟨d,op,some (g,w)⟩,l) env S=stepO gt d env S op:=by simp only[stepD,stepDO,hg,h0,h1,beq_self_eq_true,cond_false,cond_true]
 rw[this,h];exact k
end
attribute [local irreducible] afterS keepE
abbrev plB (pid:Nat)(s:List UInt8)(i n:Nat):Rs:=.bx pid 88 [.str s,.int .i64 i,.int .i64 n]
def Kp (S' S:St):Prop:=S'.mv=S.mv/\S'.dl=S.dl
theorem Kp.refl (S:St):Kp S S:=⟨rfl,rfl⟩
theorem Kp.trans {S S' S'':St}(h:Kp S'' S')(k:Kp S' S):Kp S'' S:=⟨h.1.trans k.1,h.2.trans k.2⟩
section
variable {gt:GT}{C:CallT}
theorem sx_plS {d:Option Nat}{env:Env}{S:St}{R:List Rs}{pid i n:Nat}{s:List UInt8}{a:DOpd}(h:Hs S (plB pid s i n::R))(ha:loc env a=some (.hp pid 0)):stepO gt d env S (.ld false 1 a)=.done (putV d (.str s) env) S:=sx_ldBs (h.ok 0 _ rfl).2 ha rfl
theorem sx_plI {d:Option Nat}{env:Env}{S:St}{R:List Rs}{pid i n:Nat}{s:List UInt8}{a:DOpd}(h:Hs S (plB pid s i n::R))(ha:loc env a=some (.hp pid 1)):stepO gt d env S (.ld false 1 a)=.done (putV d (.int .i64 i) env) S:=sx_ldBs (h.ok 0 _ rfl).2 ha rfl
theorem sx_plN {d:Option Nat}{env:Env}{S:St}{R:List Rs}{pid i n:Nat}{s:List UInt8}{a:DOpd}(h:Hs S (plB pid s i n::R))(ha:loc env a=some (.hp pid 2)):stepO gt d env S (.ld false 1 a)=.done (putV d (.int .i64 n) env) S:=sx_ldBs (h.ok 0 _ rfl).2 ha rfl
theorem st_plI {d:Option Nat}{env:Env}{S:St}{R:List Rs}{pid i n j:Nat}{s:List UInt8}{a x:DOpd}(h:Hs S (plB pid s i n::R))(ha:loc env a=some (.hp pid 1))(hx:opd env x=some (.int .i64 j)) :
  ∃S',stepO gt d env S (.st 1 a x)=.done (putV d .undef env) S'/\Hs S' (plB pid s j n::R)/\Kp S' S:=by
 refine⟨_,?_,h.boxTo (i:=0) rfl [.str s,.int .i64 j,.int .i64 n],rfl,rfl⟩;simp only[stepO,ha,hx,AV.cells,stL,(h.ok 0 _ rfl).2,List.all_cons,List.all_nil,ok1];rfl
theorem st_plN {d:Option Nat}{env:Env}{S:St}{R:List Rs}{pid i n j:Nat}{s:List UInt8}{a x:DOpd}(h:Hs S (plB pid s i n::R))(ha:loc env a=some (.hp pid 2))(hx:opd env x=some (.int .i64 j)) :
  ∃S',stepO gt d env S (.st 1 a x)=.done (putV d .undef env) S'/\Hs S' (plB pid s i j::R)/\Kp S' S:=by
 refine⟨_,?_,h.boxTo (i:=0) rfl [.str s,.int .i64 i,.int .i64 j],rfl,rfl⟩;simp only[stepO,ha,hx,AV.cells,stL,(h.ok 0 _ rfl).2,List.all_cons,List.all_nil,ok1];rfl
theorem r_plI {d:Option Nat}{env:Env}{S:St}{K:Env->St->Prop}{Q:Ex->Env->St->Prop}{R:List Rs}{pid i n j:Nat}{s:List UInt8}{a x:DOpd}(h:Hs S (plB pid s i n::R))(ha:loc env a=some (.hp pid 1))(hx:opd env x=some (.int .i64 j))
  (k:∀S',Hs S' (plB pid s j n::R)->Kp S' S->K (putV d .undef env) S'):afterS C d env S K Q (stepI gt ⟨d,.st 1 a x,none⟩ env S):=by
 obtain⟨S',e,h1,h2⟩:=st_plI (gt:=gt) (d:=d) h ha hx;exact step_ruleO e (k S' h1 h2)
theorem r_plN {d:Option Nat}{env:Env}{S:St}{K:Env->St->Prop}{Q:Ex->Env->St->Prop}{R:List Rs}{pid i n j:Nat}{s:List UInt8}{a x:DOpd}(h:Hs S (plB pid s i n::R))(ha:loc env a=some (.hp pid 2))(hx:opd env x=some (.int .i64 j))
  (k:∀S',Hs S' (plB pid s i j::R)->Kp S' S->K (putV d .undef env) S'):afterS C d env S K Q (stepI gt ⟨d,.st 1 a x,none⟩ env S):=by
 obtain⟨S',e,h1,h2⟩:=st_plN (gt:=gt) (d:=d) h ha hx;exact step_ruleO e (k S' h1 h2)
theorem is_wp {S:St}{R:List Rs}{pid i n c:Nat}{s:List UInt8}(h:Hs S (plB pid s i n::R)):wpF gt C F90 [.ptr pid 0,.int .u8 c] S λr S'=>r=.ret (.bool (isC s i c))/\S'=S:=by
 refine⟨rfl,?_⟩;refine goW ?_;refine step_ruleDO rfl rfl (sx_plI h rfl) (goW ?_);refine step_ruleDO rfl rfl (sx_plS h rfl) (goW ?_);by_cases hi:i<s.length
 case neg =>
  rw[dF (show ¬(i:Int)<s.length by omega)];refine goW ?_;refine⟨_,rfl,?_⟩;have:isC s i c=false:=by unfold isC;rw[List.getElem?_eq_none (by omega)]
  rw[this];exact⟨rfl,rfl⟩
 rw[dT (show (i:Int)<s.length by omega)];refine goW ?_;refine step_ruleDG rfl rfl rfl (sx_plS h rfl) (goW ?_);refine step_ruleDG rfl rfl rfl (sx_plI h rfl) (goW ?_);refine step_ruleDG rfl rfl rfl (sx_ixS (k:=i) rfl rfl (gE hi)) (goW ?_);refine⟨_,rfl,?_⟩;have e:isC s i c=(((s[i].toNat:Nat):Int) == (c:Int)):=by
  unfold isC;rw[gE hi];show Nat.beq s[i].toNat c=_;by_cases q:s[i].toNat=c
  ·rw[q,Nat.beq_refl,beq_self_eq_true]
  ·rw[beq_eq_false_iff_ne.2 (show ((s[i].toNat:Nat):Int)≠(c:Int) by omega)];cases hb:Nat.beq s[i].toNat c with
   | true=>exact absurd (bE hb) q
   | false=>rfl
 rw[e];exact⟨rfl,rfl⟩
theorem fail_wp (hm:MonoC C){S:St}{R:List Rs}{at_ why:Nat}(h:Hs S R)
  (hwr:∀{S:St} {R:List Rs} (at_ why:Nat),Hs S R->C 85 [.int .i64 at_,.int .i64 why] S λr S'=>∃id,r=.ret (.ptr id 0)/\Hs S' (R++[wrB id at_ why])/\S'.mv=S.mv/\S'.dl=S.dl) :
  wpF gt C F97 [.int .i64 at_,.int .i64 why] S λr S'=>∃id,r=.pan (.ifc 105 (.ptr id 0))/\Hs S' (R++[wrB id at_ why])/\Kp S' S:=by
 refine⟨rfl,?_⟩;refine goW ?_;refine call_rule (by rfl) (hm _ _ _ _ _ (hwr at_ why h) ?_);rintro r S2 ⟨id,rfl,h1,h2⟩;refine goW ?_;refine pan_rule rfl ?_;exact⟨_,rfl,h1,h2⟩
def PanP (R:List Rs)(at_ why:Nat)(S:St):Res->St->Prop:=λr S'=>∃id,r=.pan (.ifc 105 (.ptr id 0))/\Hs S' (R++[wrB id at_ why])/\Kp S' S
def errA (s:List UInt8)(i:Nat):Nat:=if i<s.length then i else s.length
def errW (s:List UInt8)(i:Nat):Nat:=if i<s.length then 13 else 14
theorem badP_wp (hm:MonoC C){S:St}{R:List Rs}{pid i n:Nat}{s:List UInt8}(h:Hs S (plB pid s i n::R))
  (hf:∀{S:St} {R:List Rs} (at_ why:Nat),Hs S R->C 97 [.int .i64 at_,.int .i64 why] S (PanP R at_ why S)) :
  wpF gt C F55 [.ptr pid 0] S (PanP (plB pid s i n::R) (errA s i) (errW s i) S):=by
 refine⟨rfl,?_⟩;refine goW ?_;refine step_ruleDO rfl rfl (sx_plI h rfl) (goW ?_);refine step_ruleDO rfl rfl (sx_plS h rfl) (goW ?_);by_cases hi:i<s.length
 case neg =>
  rw[dT (show (s.length:Int)<=i by omega)];refine goW ?_;refine step_ruleO (sx_plS h rfl) (goW ?_);refine call_rule (by rfl) (hm _ _ _ _ _ (hf s.length 14 h) ?_);rintro r S2 ⟨id,rfl,h1,h2⟩;unfold errA errW;rw[if_neg hi,if_neg hi];exact⟨_,rfl,h1,h2⟩
 rw[dF (show ¬(s.length:Int)<=i by omega)];refine goW ?_;refine step_ruleO (sx_plI h rfl) (goW ?_);refine call_rule (by rfl) (hm _ _ _ _ _ (hf i 13 h) ?_);rintro r S2 ⟨id,rfl,h1,h2⟩;unfold errA errW;rw[if_pos hi,if_pos hi];exact⟨_,rfl,h1,h2⟩
theorem must_wp (hm:MonoC C){S:St}{R:List Rs}{pid i n c:Nat}{s:List UInt8}(h:Hs S (plB pid s i n::R))(hl:s.length<=16777216)
  (his:∀{S:St} {R:List Rs} {i:Nat},Hs S (plB pid s i n::R)->C 90 [.ptr pid 0,.int .u8 c] S λr S'=>r=.ret (.bool (isC s i c))/\S'=S)
  (hb:∀{S:St} {R:List Rs} {i:Nat},Hs S (plB pid s i n::R)->C 55 [.ptr pid 0] S (PanP (plB pid s i n::R) (errA s i) (errW s i) S)) :
  wpF gt C F140 [.ptr pid 0,.int .u8 c] S λr S'=>if isC s i c=true then r=.ret (.tup [])/\Hs S' (plB pid s (i+1) n::R)/\Kp S' S else PanP (plB pid s i n::R) (errA s i) (errW s i) S r S':=by
 refine⟨rfl,?_⟩;refine goW ?_;refine call_rule (by rfl) (hm _ _ _ _ _ (his h) ?_);rintro r S2 ⟨rfl,rfl⟩;refine goW ?_;cases hc:isC s i c with
 | false =>
  refine goW ?_;refine call_rule (by rfl) (hm _ _ _ _ _ (hb h) ?_);rintro r S2 ⟨id,rfl,h1,h2⟩;exact⟨_,rfl,h1,h2⟩
 | true =>
  have:=isC_lt hc;refine goW ?_;refine step_ruleO (sx_plI h rfl) (goW ?_);rw[wr64 (by omega) (by omega),show (i:Int)+1=((i+1:Nat):Int) by omega];refine r_plI h rfl rfl λS3 h1 h2=>?_;refine goW ?_;exact⟨_,rfl,rfl,h1,h2⟩
end
end Go.Dn

namespace Go.Dn
open Go Go.Proofs.C1
set_option maxRecDepth 100000
attribute [local irreducible] afterS keepE
set_option maxHeartbeats 64000000
theorem ble_dec (a b:Nat):Nat.ble a b=decide ((a:Int)<=b):=by
 by_cases h:a<=b
 ·rw[Nat.ble_eq_true_of_le h,dT (by omega)]
 ·rw[dF (by omega)];cases hb:Nat.ble a b with
  | true=>exact absurd (bL hb) h
  | false=>rfl
theorem beq_dec (a b:Nat):Nat.beq a b=((a:Int) == b):=by
 by_cases h:a=b
 ·rw[h,Nat.beq_refl,beq_self_eq_true]
 ·rw[beq_eq_false_iff_ne.2 (show (a:Int)≠b by omega)];cases hb:Nat.beq a b with
  | true=>exact absurd (bE hb) h
  | false=>rfl
section
variable {gt:GT}{C:CallT}
theorem digT_wp {b:UInt8}:wpF gt C F141 [.int .u8 b.toNat] St.init (Ret (.bool (digC b))):=by
 refine⟨rfl,?_⟩;rw[show digC b=(decide ((48:Int)<=b.toNat) && decide ((b.toNat:Int)<=57)) by unfold digC;rw[ble_dec,ble_dec];rfl];refine goW ?_;by_cases c:(48:Int)<=b.toNat
 ·rw[dT c];refine goW ?_;refine⟨_,rfl,?_⟩;simp only[Bool.true_and,Bool.false_and,Bool.true_or,Bool.false_or];exact Ret.sta trivial
 ·rw[dF c];refine goW ?_;refine⟨_,rfl,?_⟩;simp only[Bool.true_and,Bool.false_and,Bool.true_or,Bool.false_or];exact Ret.sta trivial
theorem letT_wp {b:UInt8}:wpF gt C F142 [.int .u8 b.toNat] St.init (Ret (.bool (letC b))):=by
 refine⟨rfl,?_⟩;rw[show letC b=(decide ((97:Int)<=b.toNat) && decide ((b.toNat:Int)<=122) || decide ((65:Int)<=b.toNat) && decide ((b.toNat:Int)<=90)) by unfold letC;rw[ble_dec,ble_dec,ble_dec,ble_dec];rfl];refine goW ?_;by_cases c:(97:Int)<=b.toNat
 ·rw[dT c];refine goW ?_;by_cases c2:(b.toNat:Int)<=122
  ·rw[dT c2];refine goW ?_;refine⟨_,rfl,?_⟩;simp only[Bool.true_and,Bool.false_and,Bool.true_or,Bool.false_or];exact Ret.sta trivial
  ·rw[dF c2];refine goW ?_;by_cases c3:(65:Int)<=b.toNat
   ·rw[dT c3];refine goW ?_;refine⟨_,rfl,?_⟩;simp only[Bool.true_and,Bool.false_and,Bool.true_or,Bool.false_or];exact Ret.sta trivial
   ·rw[dF c3];refine goW ?_;refine⟨_,rfl,?_⟩;simp only[Bool.true_and,Bool.false_and,Bool.true_or,Bool.false_or];exact Ret.sta trivial
 ·rw[dF c];refine goW ?_;by_cases c3:(65:Int)<=b.toNat
  ·rw[dT c3];refine goW ?_;refine⟨_,rfl,?_⟩;simp only[Bool.true_and,Bool.false_and,Bool.true_or,Bool.false_or];exact Ret.sta trivial
  ·rw[dF c3];refine goW ?_;refine⟨_,rfl,?_⟩;simp only[Bool.true_and,Bool.false_and,Bool.true_or,Bool.false_or];exact Ret.sta trivial
theorem blaT_wp {b:UInt8}:wpF gt C F89 [.int .u8 b.toNat] St.init (Ret (.bool (blaC b))):=by
 refine⟨rfl,?_⟩;unfold blaC;rw[beq_dec,beq_dec,beq_dec,beq_dec];refine goW ?_;cases c1:((b.toNat:Int) == ((9:Nat):Int)) with
 | true =>
  refine goW ?_;exact⟨_,rfl,Ret.sta trivial⟩
 | false =>
  refine goW ?_;cases c2:((b.toNat:Int) == ((10:Nat):Int)) with
  | true =>
   refine goW ?_;exact⟨_,rfl,Ret.sta trivial⟩
  | false =>
   refine goW ?_;cases c3:((b.toNat:Int) == ((13:Nat):Int)) with
   | true =>
    refine goW ?_;exact⟨_,rfl,Ret.sta trivial⟩
   | false =>
    refine goW ?_;exact⟨_,rfl,Ret.sta trivial⟩
theorem inNum_wp (hm:MonoC C){b:UInt8}(hd:∀b:UInt8,PF C 141 [.int .u8 b.toNat] (.bool (digC b)))(hl:∀b:UInt8,PF C 142 [.int .u8 b.toNat] (.bool (letC b))):wpF gt C F96 [.int .u8 b.toNat] St.init (Ret (.bool (numC b))):=by
 refine⟨rfl,?_⟩;unfold numC;rw[beq_dec,beq_dec,beq_dec];refine goW ?_;refine call_pf hm (by rfl) (hd b) ?_;cases c0:digC b with
 | true =>
  refine goW ?_;exact⟨_,rfl,Ret.sta trivial⟩
 | false =>
  refine goW ?_;refine call_pf hm (by rfl) (hl b) ?_;cases c1:letC b with
  | true =>
   refine goW ?_;exact⟨_,rfl,Ret.sta trivial⟩
  | false =>
   refine goW ?_;cases c2:((b.toNat:Int) == ((43:Nat):Int)) with
   | true =>
    refine goW ?_;exact⟨_,rfl,Ret.sta trivial⟩
   | false =>
    refine goW ?_;cases c3:((b.toNat:Int) == ((45:Nat):Int)) with
    | true =>
     refine goW ?_;exact⟨_,rfl,Ret.sta trivial⟩
    | false =>
     refine goW ?_;exact⟨_,rfl,Ret.sta trivial⟩
theorem timT_wp (hm:MonoC C){b:UInt8}(hn:∀b:UInt8,PF C 96 [.int .u8 b.toNat] (.bool (numC b))):wpF gt C F95 [.int .u8 b.toNat] St.init (Ret (.bool (timC b))):=by
 refine⟨rfl,?_⟩;unfold timC;rw[beq_dec];refine goW ?_;refine call_pf hm (by rfl) (hn b) ?_;cases c0:numC b with
 | true =>
  refine goW ?_;exact⟨_,rfl,Ret.sta trivial⟩
 | false =>
  refine goW ?_;exact⟨_,rfl,Ret.sta trivial⟩
def RowP (p:UInt8->Bool)(pid:Nat)(s:List UInt8)(i n:Nat)(R:List Rs)(S:St):Res->St->Prop:=λr S'=>r=.ret (.str (midP s i (rowE p s i)))/\Hs S' (plB pid s (rowE p s i) n::R)/\Kp S' S
abbrev E_row (pid f i:Nat):Env:=[(0,.val (.ptr pid 0)),(1,.val (.fn f [] [])),(5,.val (.int .i64 i))]
theorem rowT_wp (hm:MonoC C){S:St}{R:List Rs}{pid i n f:Nat}{s:List UInt8}{p:UInt8->Bool}(h:Hs S (plB pid s i n::R))(hi:i<=s.length)(hl:s.length<=16777216)
  (hp:∀b:UInt8,PF C f [.int .u8 b.toNat] (.bool (p b))) :
  wpF gt C F88 [.ptr pid 0,.fn f [] []] S (RowP p pid s i n R S):=by
 refine⟨rfl,?_⟩;refine goW ?_;refine step_ruleO (sx_plI h rfl) (goW ?_);refine loop_rule hm (α:=Nat) (λj env S'=>Hs S' (plB pid s j n::R)/\Kp S' S/\i<=j/\j<=s.length/\rowE p s j=rowE p s i/\env=E_row pid f i) (λj=>s.length-j) ?_ (a:=i) ⟨h,Kp.refl S,nR i,hi,rfl,rfl⟩;rintro j env S1 ⟨h1,k1,hij,hj,he,rfl⟩;have post:∀{S2:St},Hs S2 (plB pid s j n::R)->Kp S2 S->rowE p s j=j->RowP p pid s i n R S (.ret (.str (midP s i j))) S2:=λh2 k2 e2=>by
  have e3:rowE p s i=j:=by rw[<-he,e2]
  unfold RowP;rw[e3];exact⟨rfl,h2,k2⟩
 refine goW ?_;refine step_ruleDO rfl rfl (sx_plI h1 rfl) (goW ?_);refine step_ruleDO rfl rfl (sx_plS h1 rfl) (goW ?_);by_cases c:j<s.length
 case neg =>
  rw[dF (show ¬(j:Int)<s.length by omega)];refine goW ?_;refine step_ruleDO rfl rfl (sx_plS h1 rfl) (goW ?_);refine step_ruleDO rfl rfl (sx_plI h1 rfl) (goW ?_);refine step_ruleDO rfl rfl (sx_slLH (l:=i) (h:=j) rfl rfl rfl hij hj) (goW ?_);exact⟨_,rfl,post h1 k1 (rowE_end (by omega))⟩
 rw[dT (show (j:Int)<s.length by omega)];refine goW ?_;refine step_ruleDG rfl rfl rfl (sx_plS h1 rfl) (goW ?_);refine step_ruleDG rfl rfl rfl (sx_plI h1 rfl) (goW ?_);refine step_ruleDG rfl rfl rfl (sx_ixS (k:=j) rfl rfl (gE c)) (goW ?_);refine call_pfD hm (by rfl) (hp s[j]) ?_;cases hc:p s[j] with
 | false =>
  refine goW ?_;refine step_ruleDO rfl rfl (sx_plS h1 rfl) (goW ?_);refine step_ruleDO rfl rfl (sx_plI h1 rfl) (goW ?_);refine step_ruleDO rfl rfl (sx_slLH (l:=i) (h:=j) rfl rfl rfl hij hj) (goW ?_);exact⟨_,rfl,post h1 k1 (rowE_out (gE c) hc)⟩
 | true =>
  refine goW ?_;refine step_ruleO (sx_plI h1 rfl) (goW ?_);rw[wr64 (by omega) (by omega),show (j:Int)+1=((j+1:Nat):Int) by omega];refine r_plI h1 rfl rfl λS3 h3 k3=>?_;refine goW ?_;exact⟨j+1,⟨h3,k3.trans k1,by omega,by omega,by rw[<-he,rowE_in (gE c) hc],rfl⟩,by omega⟩
end

set_option maxHeartbeats 64000000
section
variable {gt:GT}{C:CallT}
theorem blanks_wp (hm:MonoC C){S:St}{R:List Rs}{pid i n:Nat}{s:List UInt8}(h:Hs S (plB pid s i n::R))(hi:i<=s.length)
  (hr:∀{S:St} {R:List Rs} {i:Nat},Hs S (plB pid s i n::R)->i<=s.length->C 88 [.ptr pid 0,.fn 89 [] []] S (RowP blaC pid s i n R S)) :
  wpF gt C F53 [.agg [.ptr pid 0]] S λr S'=>r=.ret (.tup [])/\Hs S' (plB pid s (rowE blaC s i) n::R)/\Kp S' S:=by
 refine⟨rfl,?_⟩;refine goW ?_;refine call_rule (by rfl) (hm _ _ _ _ _ (hr h hi) ?_);rintro r S2 ⟨rfl,h1,h2⟩;refine goW ?_;exact⟨_,rfl,rfl,h1,h2⟩
def PanT (pid:Nat)(s:List UInt8)(R:List Rs)(at_ why:Nat)(S:St):Res->St->Prop:=λr S'=>∃id i n:Nat,r=.pan (.ifc 105 (.ptr id 0))/\Hs S' (plB pid s i n::(R++[wrB id at_ why]))/\Kp S' S
theorem PanP.toT {pid i n:Nat}{s:List UInt8}{R:List Rs}{at_ why:Nat}{S S2:St}{r:Res}{S':St}(h:PanP (plB pid s i n::R) at_ why S2 r S')(k:Kp S2 S):PanT pid s R at_ why S r S':=by
 obtain⟨id,h1,h2,h3⟩:=h;exact⟨id,i,n,h1,h2,h3.trans k⟩
theorem node_wp (hm:MonoC C){S:St}{R:List Rs}{pid i n at_ deep:Nat}{s:List UInt8}(h:Hs S (plB pid s i n::R))(hn:n<=4096)
  (hf:∀{S:St} {R:List Rs} (at_ why:Nat),Hs S R->C 97 [.int .i64 at_,.int .i64 why] S (PanP R at_ why S)) :
  wpF gt C F91 [.ptr pid 0,.int .i64 at_,.int .i64 deep,.int .i64 1] S λr S'=>if 64<deep then PanT pid s R at_ 4 S r S' else if 4096<n+1 then PanT pid s R at_ 3 S r S' else r=.ret (.tup [])/\Hs S' (plB pid s i (n+1)::R)/\Kp S' S:=by
 refine⟨rfl,?_⟩;refine goW ?_;by_cases c:64<deep
 ·rw[dT (show (64:Int)<deep by omega)];simp only[if_pos c];refine goW ?_;refine call_rule (by rfl) (hm _ _ _ _ _ (hf at_ 4 h) ?_);rintro r S2 hp;have hp:=PanP.toT hp (Kp.refl _);obtain⟨id,i',n',rfl,h1,h2⟩:=hp;exact⟨_,_,_,rfl,h1,h2⟩
 rw[dF (show ¬(64:Int)<deep by omega)];simp only[if_neg c];refine goW ?_;refine step_ruleO (sx_plN h rfl) (goW ?_);rw[wr64 (by omega) (by omega),show (n:Int)+1=((n+1:Nat):Int) by omega];refine r_plN h rfl rfl λS3 h3 k3=>?_;refine goW ?_;refine step_ruleO (sx_plN h3 rfl) (goW ?_);by_cases c2:4096<n+1
 ·rw[dT (show (4096:Int)<((n+1:Nat):Int) by omega)];simp only[if_pos c2];refine goW ?_;refine call_rule (by rfl) (hm _ _ _ _ _ (hf at_ 3 h3) ?_);rintro r S2 hp;have hp:=PanP.toT hp k3;obtain⟨id,i',n',rfl,h1,h2⟩:=hp;exact⟨_,_,_,rfl,h1,h2⟩
 rw[dF (show ¬(4096:Int)<((n+1:Nat):Int) by omega)];simp only[if_neg c2];refine goW ?_;exact⟨_,rfl,rfl,h3,k3⟩
end

set_option maxHeartbeats 64000000
section
variable {gt:GT}{C:CallT}
theorem quotedP_wp (hm:MonoC C){S:St}{R:List Rs}{pid i n:Nat}{s:List UInt8}(h:Hs S (plB pid s i n::R))(hi:i<=s.length)(hl:s.length<=16777216)
  (hq:∀{S:St} {R:List Rs} (s:List UInt8),Hs S R->s.length<=16777216->C 139 [.str s] S (QPost (quoB s) R S))
  (hqn:∀t k,quoB (s.drop i)=.ok t k->i+k<=s.length) (hqb:∀a w,quoB (s.drop i)=.bad a w->i+a<=s.length)
  (hf:∀{S:St} {R:List Rs} (at_ why:Nat),Hs S R->C 97 [.int .i64 at_,.int .i64 why] S (PanP R at_ why S)) :
  wpF gt C F92 [.ptr pid 0] S λr S'=>match quoB (s.drop i) with
   |.ok t k=>r=.ret (.str t)/\Hs S' (plB pid s (i+k) n::R)/\Kp S' S
   |.bad a w=>PanT pid s R (i+a) w S r S':=by
 refine⟨rfl,?_⟩;refine goW ?_;refine step_ruleDO rfl rfl (sx_plS h rfl) (goW ?_);refine step_ruleDO rfl rfl (sx_plI h rfl) (goW ?_);refine step_ruleDO rfl rfl (sx_slLo (l:=i) rfl rfl hi) (goW ?_);refine call_ruleD (by rfl) (hm _ _ _ _ _ (hq (s.drop i) h (by rw[lD];omega)) ?_);intro r S2 hp;unfold QPost at hp;cases e:quoB (s.drop i) with
 | ok t k =>
  rw[e]at hp;obtain⟨⟨rfl,h2⟩,k2⟩:=hp;have:=hqn t k e;refine goW ?_;refine step_ruleO (sx_plI h2 rfl) (goW ?_);rw[wr64 (by omega) (by omega),show (i:Int)+k=((i+k:Nat):Int) by omega];refine r_plI h2 rfl rfl λS3 h3 k3=>?_;refine goW ?_;exact⟨_,rfl,rfl,h3,k3.trans k2⟩
 | bad a w =>
  rw[e]at hp;obtain⟨⟨id,rfl,h2⟩,k2⟩:=hp;have:=hqb a w e;have hb:=(h2.ok (R.length+1) (wrB id a w) (by simp)).2;refine goW ?_;refine step_ruleDO rfl rfl (sx_plI h2 rfl) (goW ?_);refine step_ruleDO rfl rfl (sx_ldBs hb rfl rfl) (goW ?_);refine step_ruleDO rfl rfl (sx_ldBs hb rfl rfl) (goW ?_);rw[wr64 (by omega) (by omega),show (i:Int)+a=((i+a:Nat):Int) by omega];refine call_ruleD (by rfl) (hm _ _ _ _ _ (hf (i+a) w h2) ?_);rintro r S3 ⟨id2,rfl,h3,k3⟩;refine⟨id2,i,n,rfl,h3.less (λj=>if j<=R.length then j else j+1) ?_ ?_,k3.trans k2⟩
  ·intro x y _ _ e;by_cases p:x<=R.length<;>by_cases q:y<=R.length
   ·rw[if_pos p,if_pos q]at e;exact e
   ·rw[if_pos p,if_neg q]at e;omega
   ·rw[if_neg p,if_pos q]at e;omega
   ·rw[if_neg p,if_neg q]at e;omega
  ·intro j hj;show _=((plB pid s i n::R)++[wrB id2 (i+a) w])[j]?;simp only[lC,lA,lN]at hj;by_cases p:j<=R.length
   ·have p1:j<(plB pid s i n::R).length:=by rw[lC];omega
    rw[if_pos p,List.getElem?_append_left (by rw[lA];omega),List.getElem?_append_left p1,List.getElem?_append_left p1]
   ·obtain rfl:j=R.length+1:=by omega
    rw[if_neg p,List.getElem?_append_right (by simp),List.getElem?_append_right (by simp)];simp
end
end Go.Dn

namespace Go.Dn
open Go Go.Proofs.C1
set_option maxRecDepth 100000
mutual
def TV (S:St):PT->AV->Prop
 |.mk k s keys kids,x=>∃o1 o2 xs,x=.agg [.int .i64 k,.str s,.sl 1 o1 (strs keys),.sl 4 o2 xs]/\rd S o1=.here/\rd S o2=.here/\TVs S kids xs
def TVs (S:St):List PT->List AV->Prop
 | [],xs=>xs=[]
 | t::r,xs=>∃y ys,xs=y::ys/\TV S t y/\TVs S r ys
end
theorem rd_kp {S S':St}{o:SI}(h:Kp S' S):rd S' o=rd S o:=by unfold rd;rw[h.1,h.2]
mutual
theorem TV.kp {S S':St}(h:Kp S' S):∀(t:PT) (x:AV),TV S t x->TV S' t x
 |.mk k s keys kids,x,q=>by
  simp only[TV]at q ⊢;obtain⟨o1,o2,xs,e,a,b,c⟩:=q;exact⟨o1,o2,xs,e,by rw[rd_kp h,a],by rw[rd_kp h,b],TVs.kp h kids xs c⟩
theorem TVs.kp {S S':St}(h:Kp S' S):∀(l:List PT) (xs:List AV),TVs S l xs->TVs S' l xs
 | [],xs,q=>by simp only[TVs]at q ⊢;exact q
 | t::r,xs,q=>by
  simp only[TVs]at q ⊢;obtain⟨y,ys,e,a,b⟩:=q;exact⟨y,ys,e,TV.kp h t y a,TVs.kp h r ys b⟩
end
mutual
theorem TV.rdo {S:St}:∀(t:PT) (x:AV),TV S t x->Rdo S (encT t) x
 |.mk k s keys kids,x,q=>by
  simp only[TV]at q;obtain⟨o1,o2,xs,rfl,a,b,c⟩:=q;simp only[encT,Rdo,Rdos];refine⟨_,rfl,_,_,rfl,rfl,_,_,rfl,rfl,_,_,rfl,⟨trivial,o1,strs keys,false,strs keys,rfl,by unfold elems;rw[a],(sta_strs keys).rdos⟩,_,_,rfl,⟨trivial,o2,xs,true,xs,rfl,by unfold elems;rw[b],TVs.rdos kids xs c⟩,rfl⟩
theorem TVs.rdos {S:St}:∀(l:List PT) (xs:List AV),TVs S l xs->Rdos S (encTs l) xs
 | [],xs,q=>by simp only[TVs]at q;subst q;simp only[encTs,Rdos]
 | t::r,xs,q=>by
  simp only[TVs]at q;obtain⟨y,ys,rfl,a,b⟩:=q;simp only[encTs,Rdos];exact⟨_,_,rfl,TV.rdo t y a,TVs.rdos r ys b⟩
end
theorem TVs.snoc {S:St}{t:PT}{y:AV}:∀(l:List PT) (xs:List AV),TVs S l xs->TV S t y->TVs S (l++[t]) (xs++[y])
 | [],xs,q,h=>by
  simp only[TVs]at q;subst q;simp only[List.nil_append,TVs];exact⟨_,_,rfl,h,rfl⟩
 | u::r,xs,q,h=>by
  simp only[TVs]at q;obtain⟨z,zs,rfl,a,b⟩:=q;simp only[List.cons_append,TVs];exact⟨_,_,rfl,a,TVs.snoc r zs b h⟩
theorem TVs.len {S:St}:∀(l:List PT) (xs:List AV),TVs S l xs->xs.length=l.length
 | [],xs,q=>by simp only[TVs]at q;subst q;rfl
 | t::r,xs,q=>by
  simp only[TVs]at q;obtain⟨y,ys,rfl,_,b⟩:=q;rw[lC,lC,TVs.len r ys b]
theorem TV.agg {S:St}{t:PT}{x:AV}(h:TV S t x):∃o1 o2 xs,x=.agg [.int .i64 t.k,.str t.s,.sl 1 o1 (strs t.keys),.sl 4 o2 xs]:=by
 obtain⟨k,s,keys,kids⟩:=t;simp only[TV]at h;obtain⟨o1,o2,xs,e,_⟩:=h;exact⟨o1,o2,xs,e⟩
theorem TV.leaf {S:St}{k:Int}{t:List UInt8}{v:AV}{o1 o2:SI}(h:v=.agg [.int .i64 k,.str t,.sl 1 o1 [],.sl 4 o2 []])(h1:rd S o1=.here)(h2:rd S o2=.here):TV S (.mk k t [] []) v:=by
 simp only[TV,TVs];exact⟨o1,o2,[],by rw[h];rfl,h1,h2,rfl⟩
end Go.Dn

namespace Go.Dn
open Go Go.Proofs.C1
set_option maxRecDepth 100000
attribute [local irreducible] afterS keepE
set_option maxHeartbeats 64000000
inductive ScR where
 | ok (k:Int) (t:List UInt8) (e:Nat)
 | bad (i w:Nat)
def scaR (s:List UInt8)(i:Nat):ScR :=
 match s[i]? with
 | none=>.bad s.length 14
 | some c =>
  if (digC c || Nat.beq c.toNat 45)=true then
   if (normB (midP s i (rowE numC s i))).2=0 then .ok 3 (normB (midP s i (rowE numC s i))).1 (rowE numC s i) else .bad i (normB (midP s i (rowE numC s i))).2.toNat
  else if letC c=true then
   if midP s i (rowE letC s i)=w4null then .ok 1 [] (rowE letC s i)
   else if midP s i (rowE letC s i)=w4true\/midP s i (rowE letC s i)=w5false then .ok 2 (midP s i (rowE letC s i)) (rowE letC s i)
   else .bad i 13
  else .bad i 13
section
variable {gt:GT}{C:CallT}
theorem sx_eqU {d:Option Nat}{env:Env}{S:St}{x y:DOpd}{a b:Int}{v:Bool}(hx:opd env x=some (.int .u8 a))(hy:opd env y=some (.int .u8 b))(hv:(a == b)=v):stepO gt d env S (.bin .eql (some .int) x y)=.done (putV d (.bool v) env) S:=by
 subst hv;simp only[stepO,hx,hy];rfl
def ScaP (s:List UInt8)(i n pid:Nat)(R:List Rs)(S:St):Res->St->Prop:=λr S'=>match scaR s i with
 |.ok k t e=>∃v,r=.ret v/\TV S' (.mk k t [] []) v/\Hs S' (plB pid s e n::R)/\Kp S' S
 |.bad a w=>PanT pid s R a w S r S'
theorem scalar_wp (hm:MonoC C){S:St}{R:List Rs}{pid i n:Nat}{s:List UInt8}(h:Hs S (plB pid s i n::R))(hi:i<=s.length)(hl:s.length<=16777216)
  (hd:∀b:UInt8,PF C 141 [.int .u8 b.toNat] (.bool (digC b))) (hle:∀b:UInt8,PF C 142 [.int .u8 b.toNat] (.bool (letC b)))
  (hrn:∀{S:St} {R:List Rs} {i:Nat},Hs S (plB pid s i n::R)->i<=s.length->C 88 [.ptr pid 0,.fn 96 [] []] S (RowP numC pid s i n R S))
  (hrl:∀{S:St} {R:List Rs} {i:Nat},Hs S (plB pid s i n::R)->i<=s.length->C 88 [.ptr pid 0,.fn 142 [] []] S (RowP letC pid s i n R S))
  (hno:∀t:List UInt8,t.length<=16777216->PF C 81 [.str t] (encJoin (normB t))) (hnn:∀t:List UInt8,0<=(normB t).2)
  (hb:∀{S:St} {R:List Rs} {i:Nat},Hs S (plB pid s i n::R)->C 55 [.ptr pid 0] S (PanP (plB pid s i n::R) (errA s i) (errW s i) S))
  (hf:∀{S:St} {R:List Rs} (at_ why:Nat),Hs S R->C 97 [.int .i64 at_,.int .i64 why] S (PanP R at_ why S)) :
  wpF gt C F98 [.ptr pid 0] S (ScaP s i n pid R S):=by
 refine⟨rfl,?_⟩;refine goW ?_;refine step_ruleO (sx_plI h rfl) (goW ?_);refine step_ruleDO rfl rfl (sx_plI h rfl) (goW ?_);refine step_ruleDO rfl rfl (sx_plS h rfl) (goW ?_);by_cases c:i<s.length
 case neg =>
  rw[dF (show ¬(i:Int)<s.length by omega)];refine goW ?_;refine step_ruleDO rfl rfl (sx_plI h rfl) (goW ?_);refine step_ruleDO rfl rfl (sx_plS h rfl) (goW ?_);rw[dF (show ¬(i:Int)<s.length by omega)];refine goW ?_;refine call_rule (by rfl) (hm _ _ _ _ _ (hb h) ?_);rintro r S2 hp;have hp:=PanP.toT hp (Kp.refl _);have e:scaR s i=.bad (errA s i) (errW s i):=by
   unfold scaR errA errW;rw[List.getElem?_eq_none (by omega),if_neg c,if_neg c]
  unfold ScaP;rw[e];obtain⟨id,i',n',rfl,h1,h2⟩:=hp;exact⟨_,_,_,rfl,h1,h2⟩
 rw[dT (show (i:Int)<s.length by omega)];have hgi:s[i]? = some s[i]:=gE c;generalize s[i]=b at hgi;refine goW ?_;refine step_ruleDG rfl rfl rfl (sx_plS h rfl) (goW ?_);refine step_ruleDG rfl rfl rfl (sx_plI h rfl) (goW ?_);refine step_ruleDG rfl rfl rfl (sx_ixS (k:=i) rfl rfl hgi) (goW ?_);refine call_pfD hm (by rfl) (hd b) ?_;cases c0:digC b with
 | true =>
  refine goW ?_;refine call_rule (by rfl) (hm _ _ _ _ _ (hrn h hi) ?_);rintro r S2 ⟨rfl,h2,k2⟩;have hml:(midP s i (rowE numC s i)).length<=16777216:=by unfold midP;rw[lT,lD];omega
  have hs:scaR s i=if (normB (midP s i (rowE numC s i))).2=0 then .ok 3 (normB (midP s i (rowE numC s i))).1 (rowE numC s i) else .bad i (normB (midP s i (rowE numC s i))).2.toNat:=by
   unfold scaR;rw[hgi];simp only;rw[if_pos (by rw[c0];rfl)]
  have hno:=hno (midP s i (rowE numC s i)) hml;have hnn:=hnn (midP s i (rowE numC s i));generalize normB (midP s i (rowE numC s i))=q at hno hnn hs;generalize midP s i (rowE numC s i)=m at hno;generalize rowE numC s i=e at h2 hs;obtain⟨t,w⟩:=q;unfold encJoin at hno;simp only at hno hnn hs;refine goW ?_;refine call_pf hm (by rfl) hno (goW ?_);by_cases z:w=0
  ·rw[neI_false z];rw[if_pos z]at hs;refine goW ?_;refine⟨_,rfl,?_⟩;unfold ScaP;rw[hs];exact⟨_,rfl,TV.leaf rfl rfl rfl,h2,k2⟩
  ·rw[neI_true z];rw[if_neg z]at hs;obtain⟨w',rfl⟩:=Int.eq_ofNat_of_zero_le hnn;rw[Int.toNat_natCast]at hs;refine goW ?_;refine call_rule (by rfl) (hm _ _ _ _ _ (hf i w' h2) ?_);rintro r S3 hp;have hp:=PanP.toT hp k2;unfold ScaP;rw[hs];obtain⟨id,i',n',rfl,h1,h3⟩:=hp;exact⟨_,_,_,rfl,h1,h3⟩
 | false =>
  refine goW ?_;refine step_ruleDG rfl rfl rfl (sx_plS h rfl) (goW ?_);refine step_ruleDG rfl rfl rfl (sx_plI h rfl) (goW ?_);refine step_ruleDG rfl rfl rfl (sx_ixS (k:=i) rfl rfl hgi) ?_;refine⟨rfl,?_⟩;have q45:((b.toNat:Int) == 45)=Nat.beq b.toNat 45:=(beq_dec b.toNat 45).symm;cases c1:Nat.beq b.toNat 45 with
  | true =>
   rw[c1]at q45;refine step_ruleDG rfl rfl rfl (sx_eqU rfl rfl q45) (goW ?_);refine call_rule (by rfl) (hm _ _ _ _ _ (hrn h hi) ?_);rintro r S2 ⟨rfl,h2,k2⟩;have hml:(midP s i (rowE numC s i)).length<=16777216:=by unfold midP;rw[lT,lD];omega
   have hs:scaR s i=if (normB (midP s i (rowE numC s i))).2=0 then .ok 3 (normB (midP s i (rowE numC s i))).1 (rowE numC s i) else .bad i (normB (midP s i (rowE numC s i))).2.toNat:=by
    unfold scaR;rw[hgi];simp only;rw[if_pos (by rw[c0,c1];rfl)]
   have hno:=hno (midP s i (rowE numC s i)) hml;have hnn:=hnn (midP s i (rowE numC s i));generalize normB (midP s i (rowE numC s i))=q at hno hnn hs;generalize midP s i (rowE numC s i)=m at hno;generalize rowE numC s i=e at h2 hs;obtain⟨t,w⟩:=q;unfold encJoin at hno;simp only at hno hnn hs;refine goW ?_;refine call_pf hm (by rfl) hno (goW ?_);by_cases z:w=0
   ·rw[neI_false z];rw[if_pos z]at hs;refine goW ?_;refine⟨_,rfl,?_⟩;unfold ScaP;rw[hs];exact⟨_,rfl,TV.leaf rfl rfl rfl,h2,k2⟩
   ·rw[neI_true z];rw[if_neg z]at hs;obtain⟨w',rfl⟩:=Int.eq_ofNat_of_zero_le hnn;rw[Int.toNat_natCast]at hs;refine goW ?_;refine call_rule (by rfl) (hm _ _ _ _ _ (hf i w' h2) ?_);rintro r S3 hp;have hp:=PanP.toT hp k2;unfold ScaP;rw[hs];obtain⟨id,i',n',rfl,h1,h3⟩:=hp;exact⟨_,_,_,rfl,h1,h3⟩
  | false =>
   rw[c1]at q45;refine step_ruleDG rfl rfl rfl (sx_eqU rfl rfl q45) (goW ?_);refine step_ruleDO rfl rfl (sx_plI h rfl) (goW ?_);refine step_ruleDO rfl rfl (sx_plS h rfl) (goW ?_);rw[dT (show (i:Int)<s.length by omega)];refine goW ?_;refine step_ruleDG rfl rfl rfl (sx_plS h rfl) (goW ?_);refine step_ruleDG rfl rfl rfl (sx_plI h rfl) (goW ?_);refine step_ruleDG rfl rfl rfl (sx_ixS (k:=i) rfl rfl hgi) (goW ?_);refine call_pfD hm (by rfl) (hle b) ?_;cases c2:letC b with
   | false =>
    refine goW ?_;refine call_rule (by rfl) (hm _ _ _ _ _ (hb h) ?_);rintro r S2 hp;have hp:=PanP.toT hp (Kp.refl _);have e:scaR s i=.bad (errA s i) (errW s i):=by
     unfold scaR errA errW;rw[hgi,if_pos c,if_pos c];simp only;rw[if_neg (by rw[c0,c1];exact Bool.false_ne_true),if_neg (by rw[c2];exact Bool.false_ne_true)]
    unfold ScaP;rw[e];obtain⟨id,i',n',rfl,h1,h2⟩:=hp;exact⟨_,_,_,rfl,h1,h2⟩
   | true =>
    refine goW ?_;refine call_rule (by rfl) (hm _ _ _ _ _ (hrl h hi) ?_);rintro r S2 ⟨rfl,h2,k2⟩;have hs:scaR s i=if midP s i (rowE letC s i)=w4null then .ok 1 [] (rowE letC s i) else if midP s i (rowE letC s i)=w4true\/midP s i (rowE letC s i)=w5false then .ok 2 (midP s i (rowE letC s i)) (rowE letC s i) else .bad i 13:=by
     unfold scaR;rw[hgi];simp only;rw[if_neg (by rw[c0,c1];exact Bool.false_ne_true),if_pos c2]
    generalize midP s i (rowE letC s i)=m at hs;generalize rowE letC s i=e at h2 hs;refine goW ?_;by_cases z1:m=w4null
    ·rw[beqB_iff.2 z1];rw[if_pos z1]at hs;refine goW ?_;refine⟨_,rfl,?_⟩;unfold ScaP;rw[hs];exact⟨_,rfl,TV.leaf rfl rfl rfl,h2,k2⟩
    rw[show beqB m [110,117,108,108]=false from by cases q:beqB m [110,117,108,108] with | true=>exact absurd (beqB_iff.1 q) z1 | false=>rfl];rw[if_neg z1]at hs;refine goW ?_;by_cases z2:m=w4true
    ·rw[beqB_iff.2 z2];rw[if_pos (.inl z2)]at hs;refine goW ?_;refine⟨_,rfl,?_⟩;unfold ScaP;rw[hs];exact⟨_,rfl,TV.leaf rfl rfl rfl,h2,k2⟩
    rw[show beqB m [116,114,117,101]=false from by cases q:beqB m [116,114,117,101] with | true=>exact absurd (beqB_iff.1 q) z2 | false=>rfl];refine goW ?_;by_cases z3:m=w5false
    ·rw[beqB_iff.2 z3];rw[if_pos (.inr z3)]at hs;refine goW ?_;refine⟨_,rfl,?_⟩;unfold ScaP;rw[hs];exact⟨_,rfl,TV.leaf rfl rfl rfl,h2,k2⟩
    rw[show beqB m [102,97,108,115,101]=false from by cases q:beqB m [102,97,108,115,101] with | true=>exact absurd (beqB_iff.1 q) z3 | false=>rfl];rw[if_neg (λh=>h.elim z2 z3)]at hs;refine goW ?_;refine call_rule (by rfl) (hm _ _ _ _ _ (hf i 13 h2) ?_);rintro r S3 hp;have hp:=PanP.toT hp k2;unfold ScaP;rw[hs];obtain⟨id,i',n',rfl,h1,h3⟩:=hp;exact⟨_,_,_,rfl,h1,h3⟩
end
end Go.Dn

namespace Go.Dn
open Go Go.Proofs.C1
set_option maxRecDepth 100000
theorem rowE_idem {p:UInt8->Bool}{s:List UInt8}{i:Nat}:rowE p s (rowE p s i)=rowE p s i:=by
 by_cases h:rowE p s i<s.length
 ·refine rowE_out (c:=s[rowE p s i]) (gE h) ?_;unfold rowE;have key:∀(l:List UInt8) (j:Nat) (hj:j<l.length),j=(l.takeWhile p).length->p l[j]=false:=by
   intro l
   induction l with
   | nil=>intro j hj;simp at hj
   | cons a r ih =>
    intro j hj e;by_cases ha:p a=true
    ·rw[List.takeWhile_cons_of_pos ha,lC]at e;subst e;rw[List.getElem_cons_succ];exact ih _ _ rfl
    ·rw[List.takeWhile_cons_of_neg ha]at e;subst e;simpa using ha
  have h2:((s.drop i).takeWhile p).length<(s.drop i).length:=by
   rw[lD];unfold rowE at h;omega
  have:=key (s.drop i) _ h2 rfl;rw[List.getElem_drop]at this;exact this
 ·exact rowE_end (by omega)
def PR.fine (s:List UInt8)(i n:Nat):PR->Prop
 |.ok t e m=>i<e/\e<=s.length/\n<m/\m<=4096/\t.ok
 |.bad a w=>a<=s.length/\0<w
theorem ok_leaf {k:Int}{x:List UInt8}:(PT.mk k x [] []).ok:=by simp only[PT.ok,PT.oks];exact⟨by decide,by decide,trivial⟩
theorem oks_of:∀{l:List PT},(∀u∈l,u.ok)->PT.oks l
 | [],_=>by simp only[PT.oks]
 | t::r,h=>by simp only[PT.oks];exact⟨h t (List.mem_cons_self ..),oks_of λu hu=>h u (List.mem_cons_of_mem _ hu)⟩
theorem ok_of {k:Int}{x:List UInt8}{keys:List (List UInt8)}{kids:List PT}(h1:keys.length<=5000)(h2:kids.length<=5000)(h:∀u∈kids,u.ok):(PT.mk k x keys kids).ok:=by
 simp only[PT.ok];exact⟨by omega,by omega,oks_of h⟩
theorem all_snoc {l:List PT}{t:PT}(h:∀u∈l,u.ok)(ht:t.ok):∀u∈l++[t],u.ok:=λu hu=>by
 rcases List.mem_append.1 hu with hu | hu
 ·exact h u hu
 ·rw[List.mem_singleton.1 hu];exact ht
theorem errP_fine {s:List UInt8}{i j n:Nat}(h:i<=s.length):(errP s i).fine s j n:=by
 unfold errP;split<;>simp only[PR.fine]<;>omega
theorem nodP_fine {s:List UInt8}{deep i n:Nat}{x:PR}(h:i<=s.length)(hx:n+1<=4096->x.fine s i n):(nodP deep i n x).fine s i n:=by
 unfold nodP;split
 ·simp only[PR.fine];omega
 split
 ·simp only[PR.fine];omega
 ·exact hx (by omega)
theorem scaP_fine {s:List UInt8}{deep i n:Nat}{c:UInt8}(hc:s[i]? = some c)(hnn:∀t:List UInt8,0<=(normB t).2)(h45:numC 45=true):(scaP s deep i n c).fine s i n:=by
 have hi:i<s.length:=(List.getElem?_eq_some_iff.1 hc).1;unfold scaP;by_cases h1:(digC c || Nat.beq c.toNat 45)=true
 ·have hn:numC c=true:=by
   rw[Bool.or_eq_true]at h1;rcases h1 with h1 | h1
   ·unfold numC;rw[h1];rfl
   ·have:c=45:=by have:=bE h1;exact UInt8.toNat_inj.1 (by rw[this];rfl)
    rw[this,h45]
  have h2:i<rowE numC s i:=by rw[rowE_in hc hn];have:=rowE_ge (p:=numC) (s:=s) (i:=i+1);omega
  have h3:rowE numC s i<=s.length:=rowE_le (by omega);rw[if_pos h1];split
  ·exact nodP_fine (by omega) λh=>⟨h2,h3,by omega,by omega,ok_leaf⟩
  ·have:=hnn (midP s i (rowE numC s i));simp only[PR.fine];omega
 rw[if_neg h1];by_cases hl:letC c=true
 ·have h2:i<rowE letC s i:=by rw[rowE_in hc hl];have:=rowE_ge (p:=letC) (s:=s) (i:=i+1);omega
  have h3:rowE letC s i<=s.length:=rowE_le (by omega);rw[if_pos hl];split
  ·exact nodP_fine (by omega) λh=>⟨h2,h3,by omega,by omega,ok_leaf⟩
  split
  ·exact nodP_fine (by omega) λh=>⟨h2,h3,by omega,by omega,ok_leaf⟩
  ·simp only[PR.fine];omega
 ·rw[if_neg hl];simp only[PR.fine];omega
def QuoOK (s:List UInt8):Prop:=(∀i t k,quoB (s.drop i)=.ok t k->0<k/\i+k<=s.length)/\(∀i a w,i<=s.length->quoB (s.drop i)=.bad a w->i+a<=s.length/\0<w)
theorem reads_fine {s:List UInt8}(hq:QuoOK s)(hnn:∀t:List UInt8,0<=(normB t).2)(h45:numC 45=true):∀f:Nat,
  (∀deep i n,i<=s.length->2*(s.length-i)+1<=f->(treeP s f deep i n).fine s i n) /\
  (∀deep i n acc,i<=s.length->n<=4096->acc.length<=n->(∀u∈acc,u.ok)->2*(s.length-i)+2<=f->(listP s f deep i n acc).fine s i n) /\
  (∀deep i n keys kids,i<=s.length->n<=4096->keys.length<=n->kids.length<=n->(∀u∈kids,u.ok)->2*(s.length-i)+2<=f->(recP s f deep i n keys kids).fine s i n):=by
 intro f
 induction f with
 | zero=>exact⟨λ_ _ _ _ h=>by omega,λ_ _ _ _ _ _ _ _ h=>by omega,λ_ _ _ _ _ _ _ _ _ _ h=>by omega⟩
 | succ f ih =>
  obtain⟨ih1,ih2,ih3⟩:=ih;have drop1:∀{i n m j:Nat} {x:PR},i<=j->n<=m->x.fine s j m->x.fine s i n:=λ{i n m j x} h1 h2 h=>by
   cases x with
   | ok t e k=>exact⟨by have:=h.1;omega,h.2.1,by have:=h.2.2.1;omega,h.2.2.2.1,h.2.2.2.2⟩
   | bad a w=>exact h
  refine⟨?_,?_,?_⟩
  ·intro deep i n hi hf;rw[treeP];cases hc:s[i]? with
   | none=>simp only[PR.fine];omega
   | some c =>
    have hlt:i<s.length:=(List.getElem?_eq_some_iff.1 hc).1;simp only;split
    ·refine nodP_fine hi λh=>?_;cases e:quoB (s.drop i) with
     | ok t k=>have:=hq.1 i t k e;exact⟨by omega,by omega,by omega,by omega,ok_leaf⟩
     | bad a w=>have:=hq.2 i a w hi e;simp only[PR.fine];omega
    split
    ·refine nodP_fine hi λh=>?_;have h2:=rowE_ge (p:=blaC) (s:=s) (i:=i+1);split
     ·rename_i h1;have:=isC_lt h1;exact⟨by omega,by omega,by omega,by omega,ok_leaf⟩
     ·exact drop1 (j:=i+1) (m:=n+1) (by omega) (by omega) (ih2 deep (i+1) (n+1) [] (by omega) (by omega) (Nat.zero_le _) (λu hu=>by cases hu) (by omega))
    split
    ·refine nodP_fine hi λh=>?_;have h2:=rowE_ge (p:=blaC) (s:=s) (i:=i+1);split
     ·rename_i h1;have:=isC_lt h1;exact⟨by omega,by omega,by omega,by omega,ok_leaf⟩
     ·exact drop1 (j:=i+1) (m:=n+1) (by omega) (by omega) (ih3 deep (i+1) (n+1) [] [] (by omega) (by omega) (Nat.zero_le _) (Nat.zero_le _) (λu hu=>by cases hu) (by omega))
    split
    ·have h2:=rowE_ge (p:=timC) (s:=s) (i:=i+1);have h3:=rowE_le (p:=timC) (s:=s) (i:=i+1) (by omega);split
     ·exact nodP_fine hi λh=>⟨by omega,h3,by omega,by omega,ok_leaf⟩
     ·simp only[PR.fine];omega
    ·exact scaP_fine hc hnn h45
  ·intro deep i n acc hi hn ha hk hf;rw[listP];have h2:=rowE_ge (p:=blaC) (s:=s) (i:=i);have h3:=rowE_le (p:=blaC) (s:=s) hi;have k1:=ih1 (deep+1) (rowE blaC s i) n h3 (by omega);cases e:treeP s f (deep+1) (rowE blaC s i) n with
   | bad a w=>rw[e]at k1;exact k1
   | ok t j m =>
    rw[e]at k1;simp only[PR.fine]at k1;simp only;have h4:=rowE_ge (p:=blaC) (s:=s) (i:=j);have h5:=rowE_le (p:=blaC) (s:=s) (i:=j) (by omega);split
    ·rename_i h1;have:=isC_lt h1;exact drop1 (j:=rowE blaC s j+1) (m:=m) (by omega) (by omega) (ih2 deep (rowE blaC s j+1) m (acc++[t]) (by omega) (by omega) (by simp only[lA,lC,lN];omega) (all_snoc hk k1.2.2.2.2) (by omega))
    split
    ·rename_i h1;have:=isC_lt h1;exact⟨by omega,by omega,by omega,by omega,ok_of (Nat.zero_le _) (by simp only[lA,lC,lN];omega) (all_snoc hk k1.2.2.2.2)⟩
    ·exact errP_fine h5
  ·intro deep i n keys kids hi hn ha hb hk hf;rw[recP];have h2:=rowE_ge (p:=blaC) (s:=s) (i:=i);have h3:=rowE_le (p:=blaC) (s:=s) hi;split
   ·cases e:quoB (s.drop (rowE blaC s i)) with
    | bad a w=>have:=hq.2 _ a w h3 e;simp only[PR.fine];omega
    | ok k m =>
     have hq1:=hq.1 _ k m e;simp only;split
     ·simp only[PR.fine];omega
     have h4:=rowE_ge (p:=blaC) (s:=s) (i:=rowE blaC s i+m);have h5:=rowE_le (p:=blaC) (s:=s) (i:=rowE blaC s i+m) (by omega);split
     ·rename_i h1;have h1:=isC_lt h1;have h6:=rowE_ge (p:=blaC) (s:=s) (i:=rowE blaC s (rowE blaC s i+m)+1);have h7:=rowE_le (p:=blaC) (s:=s) (i:=rowE blaC s (rowE blaC s i+m)+1) (by omega);have k1:=ih1 (deep+1) _ n h7 (by omega);cases e2:treeP s f (deep+1) (rowE blaC s (rowE blaC s (rowE blaC s i+m)+1)) n with
      | bad a w=>rw[e2]at k1;exact k1
      | ok t j n' =>
       rw[e2]at k1;simp only[PR.fine]at k1;simp only;have h8:=rowE_ge (p:=blaC) (s:=s) (i:=j);have h9:=rowE_le (p:=blaC) (s:=s) (i:=j) (by omega);split
       ·rename_i g1;have:=isC_lt g1;exact drop1 (j:=rowE blaC s j+1) (m:=n') (by omega) (by omega) (ih3 deep (rowE blaC s j+1) n' _ _ (by omega) (by omega) (by simp only[lA,lC,lN];omega) (by simp only[lA,lC,lN];omega) (all_snoc hk k1.2.2.2.2) (by omega))
       split
       ·rename_i g1;have:=isC_lt g1;exact⟨by omega,by omega,by omega,by omega,ok_of (by simp only[lA,lC,lN];omega) (by simp only[lA,lC,lN];omega) (all_snoc hk k1.2.2.2.2)⟩
       ·exact errP_fine h9
     ·exact errP_fine h5
   ·exact errP_fine h3
theorem quoL_fine:∀(m:Nat) (rest:List UInt8) (i:Nat) (acc:List UInt8),rest.length<=m->(∀t n,quoL rest i acc=.ok t n->i<n/\n<=i+rest.length)/\(∀a w,quoL rest i acc=.bad a w->a<=i+rest.length/\0<w):=by
 intro m
 induction m with
 | zero =>
  intro rest i acc h;obtain rfl:rest=[]:=nL (by omega);rw[quoL];exact⟨λt n e=>(by cases e),λa w e=>by cases e;simp⟩
 | succ m ih =>
  intro rest i acc h;cases rest with
  | nil=>rw[quoL];exact⟨λt n e=>(by cases e),λa w e=>by cases e;simp⟩
  | cons c r =>
   rw[lC]at h;rw[quoL,lC];split
   ·exact⟨λt n e=>(by cases e;omega),λa w e=>by cases e⟩
   split
   ·exact⟨λt n e=>(by cases e),λa w e=>by cases e;omega⟩
   split
   ·cases he:escU r with
    | none=>exact⟨λt n e=>(by cases e),λa w e=>by cases e;omega⟩
    | some p =>
     have:=escU_len he;obtain⟨k1,k2⟩:=ih (r.drop p.2) (i+1+p.2) (acc++encC p.1) (by rw[lD];omega);rw[lD]at k1 k2;exact⟨λt n e=>(by have:=k1 t n e;omega),λa w e=>by have:=k2 a w e;omega⟩
   ·obtain⟨k1,k2⟩:=ih r (i+1) (acc++[c]) (by omega);exact⟨λt n e=>(by have:=k1 t n e;omega),λa w e=>by have:=k2 a w e;omega⟩
theorem quoOK (s:List UInt8):QuoOK s:=by
 have key:∀l:List UInt8,(∀t n,quoB l=.ok t n->0<n/\n<=l.length)/\(∀a w,quoB l=.bad a w->a<=l.length/\0<w):=λl=>by
  cases l with
  | nil=>exact⟨λt n e=>(by cases e),λa w e=>by cases e;simp⟩
  | cons c r =>
   simp only[quoB];split
   ·obtain⟨k1,k2⟩:=quoL_fine r.length r 1 [] (nR _);rw[lC];exact⟨λt n e=>(by have:=k1 t n e;omega),λa w e=>by have:=k2 a w e;omega⟩
   ·exact⟨λt n e=>(by cases e),λa w e=>by cases e;simp⟩
 refine⟨λi t k e=>?_,λi a w hi e=>?_⟩
 ·have:=(key (s.drop i)).1 t k e;rw[lD]at this;omega
 ·have:=(key (s.drop i)).2 a w e;rw[lD]at this;omega
end Go.Dn

namespace Go.Dn
open Go Go.Proofs.C1
set_option maxRecDepth 100000
attribute [local irreducible] afterS keepE
set_option maxHeartbeats 64000000
structure RdCs (C:CallT)(s:List UInt8):Prop where
 bla:∀{S:St} {R:List Rs} {pid i n:Nat},Hs S (plB pid s i n::R)->i<=s.length->C 53 [.agg [.ptr pid 0]] S λr S'=>r=.ret (.tup [])/\Hs S' (plB pid s (rowE blaC s i) n::R)/\Kp S' S
 is:∀{S:St} {R:List Rs} {pid i n:Nat} (c:Nat),Hs S (plB pid s i n::R)->C 90 [.ptr pid 0,.int .u8 c] S λr S'=>r=.ret (.bool (isC s i c))/\S'=S
 bad:∀{S:St} {R:List Rs} {pid i n:Nat},Hs S (plB pid s i n::R)->C 55 [.ptr pid 0] S (PanP (plB pid s i n::R) (errA s i) (errW s i) S)
 must:∀{S:St} {R:List Rs} {pid i n:Nat} (c:Nat),Hs S (plB pid s i n::R)->C 140 [.ptr pid 0,.int .u8 c] S λr S'=>if isC s i c=true then r=.ret (.tup [])/\Hs S' (plB pid s (i+1) n::R)/\Kp S' S else PanP (plB pid s i n::R) (errA s i) (errW s i) S r S'
 node:∀{S:St} {R:List Rs} {pid i n at_ deep:Nat},Hs S (plB pid s i n::R)->n<=4096->C 91 [.ptr pid 0,.int .i64 at_,.int .i64 deep,.int .i64 1] S λr S'=>if 64<deep then PanT pid s R at_ 4 S r S' else if 4096<n+1 then PanT pid s R at_ 3 S r S' else r=.ret (.tup [])/\Hs S' (plB pid s i (n+1)::R)/\Kp S' S
 fail:∀{S:St} {R:List Rs} (at_ why:Nat),Hs S R->C 97 [.int .i64 at_,.int .i64 why] S (PanP R at_ why S)
 quo:∀{S:St} {R:List Rs} {pid i n:Nat},Hs S (plB pid s i n::R)->i<=s.length->C 92 [.ptr pid 0] S λr S'=>match quoB (s.drop i) with
   |.ok t k=>r=.ret (.str t)/\Hs S' (plB pid s (i+k) n::R)/\Kp S' S
   |.bad a w=>PanT pid s R (i+a) w S r S'
 rowT:∀{S:St} {R:List Rs} {pid i n:Nat},Hs S (plB pid s i n::R)->i<=s.length->C 88 [.ptr pid 0,.fn 95 [] []] S (RowP timC pid s i n R S)
 sca:∀{S:St} {R:List Rs} {pid i n:Nat},Hs S (plB pid s i n::R)->i<=s.length->C 98 [.ptr pid 0] S (ScaP s i n pid R S)
 time:∀t:List UInt8,t.length<=16777216->PF C 83 [.str t] (.bool (timeB t))
 len:s.length<=16777216
 num:∀t:List UInt8,0<=(normB t).2
def RdT (pid:Nat)(s:List UInt8)(R:List Rs)(S:St)(x:PR):Res->St->Prop:=λr S'=>match x with
 |.ok t e n=>∃v,r=.ret v/\TV S' t v/\Hs S' (plB pid s e n::R)/\Kp S' S
 |.bad a w=>PanT pid s R a w.toNat S r S'
def TreeC (C:CallT)(s:List UInt8)(f:Nat):Prop:=∀{S:St} {R:List Rs} {pid i n deep:Nat},Hs S (plB pid s i n::R)->i<=s.length->n<=4096->deep<=65->2*(s.length-i)+1<=f->C 54 [.agg [.ptr pid 0],.int .i64 deep] S (RdT pid s R S (treeP s f deep i n))
theorem errP_eq (s:List UInt8)(i:Nat):errP s i=.bad (errA s i) (errW s i):=by
 unfold errP errA errW;split<;>rfl
theorem PanT.less {pid:Nat}{s:List UInt8}{R X:List Rs}{a w:Nat}{S:St}{r:Res}{S':St}(h:PanT pid s (R++X) a w S r S'):PanT pid s R a w S r S':=by
 obtain⟨id,i,n,e,h1,h2⟩:=h;refine⟨id,i,n,e,h1.less (λj=>if j<=R.length then j else j+X.length) ?_ ?_,h2⟩
 ·intro x y _ _ e;by_cases p:x<=R.length<;>by_cases q:y<=R.length
  ·rw[if_pos p,if_pos q]at e;exact e
  ·rw[if_pos p,if_neg q]at e;omega
  ·rw[if_neg p,if_pos q]at e;omega
  ·rw[if_neg p,if_neg q]at e;omega
 ·intro j hj;simp only[lC,lA,lN]at hj;by_cases p:j<=R.length
  ·rw[if_pos p];cases j with
   | zero=>rfl
   | succ j =>
    show ((R++X)++[wrB id a w])[j]? = (R++[wrB id a w])[j]?;rw[aA,List.getElem?_append_left (by omega),List.getElem?_append_left (by omega)]
  ·obtain rfl:j=R.length+1:=by omega
   rw[if_neg p];rw[show R.length+1+X.length=(R.length+X.length)+1 by omega];show ((R++X)++[wrB id a w])[R.length+X.length]? = (R++[wrB id a w])[R.length]?;rw[<-lA,List.getElem?_append_right (nR _),List.getElem?_append_right (nR _)];simp
theorem PanT.tr {pid:Nat}{s:List UInt8}{R:List Rs}{a w:Nat}{S S2:St}{r:Res}{S':St}(h:PanT pid s R a w S2 r S')(k:Kp S2 S):PanT pid s R a w S r S':=by
 obtain⟨id,i,n,e,h1,h2⟩:=h;exact⟨id,i,n,e,h1,h2.trans k⟩
theorem Hs.init1 {S:St}{a:Rs}{R X:List Rs}(h:Hs S (a::(R++X))):Hs S (a::R):=by
 refine h.less (λx=>x) (λ_ _ _ _ e=>e) λj hj=>?_;cases j with
 | zero=>rfl
 | succ j =>
  show (R++X)[j]? = R[j]?;rw[List.getElem?_append_left (by simpa using hj)]
theorem listP_bl {s:List UInt8}{f deep i n:Nat}{acc:List PT}:listP s f deep (rowE blaC s i) n acc=listP s f deep i n acc:=by
 cases f with
 | zero=>rw[listP,listP]
 | succ f=>rw[listP,listP,rowE_idem]
section
variable {gt:GT}{C:CallT}
abbrev nil1:AV:=.sl 1 ⟨none,0,some 0,true⟩ []
abbrev nil4:AV:=.sl 4 ⟨none,0,some 0,true⟩ []
abbrev E_lst (pid deep:Nat)(o:SI)(xs:List AV):Env:=[(1,.val (.int .i64 deep)),(2,.box [.ptr pid 0]),(4,.box [.int .i64 0,.str [],nil1,nil4]),(5,.box [.int .i64 6,.str [],nil1,.sl 4 o xs])]
def lisP (s:List UInt8)(f deep i n:Nat):PR:=if isC s (rowE blaC s (i+1)) 93=true then .ok (.mk 6 [] [] []) (rowE blaC s (i+1)+1) n else listP s f deep (i+1) n []
theorem list_wp (hm:MonoC C){s:List UInt8}(K:RdCs C s){f:Nat}(hT:∀g,g<f->TreeC C s g){S:St}{R:List Rs}{pid i n deep:Nat}(h:Hs S (plB pid s i n::R))(hi:isC s i 91=true)(hn:n<=4096)(hd:deep<=64)(hf:2*(s.length-(i+1))+2<=f) :
  wpF gt C F93 [.agg [.ptr pid 0],.int .i64 deep] S (RdT pid s R S (lisP s f deep i n)):=by
 have hlt:=isC_lt hi;have hl:=K.len;refine⟨rfl,?_⟩;refine goW ?_;refine call_rule (by rfl) (hm _ _ _ _ _ (K.must 91 h) ?_);rw[hi];rintro r S1 ⟨rfl,h1,k1⟩;refine goW ?_;refine call_rule (by rfl) (hm _ _ _ _ _ (K.bla h1 (by omega)) ?_);rintro r S2 ⟨rfl,h2,k2⟩;have k2:=k2.trans k1;have b1:=rowE_ge (p:=blaC) (s:=s) (i:=i+1);have b2:=rowE_le (p:=blaC) (s:=s) (i:=i+1) (by omega);refine goW ?_;refine call_rule (by rfl) (hm _ _ _ _ _ (K.is 93 h2) ?_);rintro r S3 ⟨rfl,rfl⟩;refine goW ?_;unfold lisP;cases hc:isC s (rowE blaC s (i+1)) 93 with
 | true =>
  have b3:=isC_lt hc;refine goW ?_;refine step_ruleO (sx_plI h2 rfl) (goW ?_);rw[wr64 (by omega) (by omega),show ((rowE blaC s (i+1):Nat):Int)+1=((rowE blaC s (i+1)+1:Nat):Int) by omega];refine r_plI h2 rfl rfl λS3 h3 k3=>?_;refine goW ?_;refine⟨_,rfl,?_⟩;simp only[if_true];exact⟨_,rfl,TV.leaf rfl rfl rfl,h3,k3.trans k2⟩
 | false =>
  simp only[Bool.false_eq_true,if_false];refine goW ?_;have hA:Hs S3 (plB pid s (rowE blaC s (i+1)) n::(R++[Rs.gr 25 ⟨none,0,some 0,true⟩ []])):=h2.addNil 25 true;have hB:listP s f deep (i+1) n []=listP s f deep (rowE blaC s (i+1)) n []:=listP_bl.symm;generalize listP s f deep (i+1) n []=res at hB ⊢;refine loop_rule hm (α:=Nat) (λg env S'=>∃j m acc o xs,Hs S' (plB pid s j m::(R++[Rs.gr 25 o xs]))/\TVs S' acc xs/\Kp S' S/\j<=s.length/\m<=4096/\acc.length<=m/\res=listP s g deep j m acc/\2*(s.length-j)+2<=g/\g<=f/\env=E_lst pid deep o xs) (λg=>g) ?_ (a:=f) ⟨_,n,[],⟨none,0,some 0,true⟩,[],hA,(by simp only[TVs]),k2,b2,hn,Nat.zero_le _,hB,by omega,nR _,rfl⟩;rintro g env S3 ⟨j,m,acc,o,xs,h3,tv3,k3,hj,hm2,ha,hp,hg,hgf,rfl⟩;cases g with
  | zero=>omega
  | succ g =>
  have c1:=rowE_ge (p:=blaC) (s:=s) (i:=j);have c2:=rowE_le (p:=blaC) (s:=s) hj;have hxl:=TVs.len acc xs tv3;refine goW ?_;refine call_rule (by rfl) (hm _ _ _ _ _ (K.bla h3 hj) ?_);rintro r S4 ⟨rfl,h4,k4⟩;refine goW ?_;rw[wr64 (by omega) (by omega),show (deep:Int)+1=((deep+1:Nat):Int) by omega];refine call_ruleD (by rfl) (hm _ _ _ _ _ (hT g (by omega) h4 c2 hm2 (by omega) (by omega)) ?_);intro r S5 hp5;rw[listP]at hp;cases e5:treeP s g (deep+1) (rowE blaC s j) m with
  | bad a w =>
   rw[e5]at hp5 hp;have hp:res=.bad a w:=hp;have hp5:=(PanT.less hp5).tr (k4.trans k3);obtain⟨id,i',n',rfl,q1,q2⟩:=hp5;rw[hp];exact⟨_,_,_,rfl,q1,q2⟩
  | ok t e m2 =>
  rw[e5]at hp5 hp;have hp:res=if isC s (rowE blaC s e) 44=true then listP s g deep (rowE blaC s e+1) m2 (acc++[t]) else if isC s (rowE blaC s e) 93=true then .ok (.mk 6 [] [] (acc++[t])) (rowE blaC s e+1) m2 else errP s (rowE blaC s e):=hp
  obtain⟨v,rfl,tv5,h5,k5⟩:=hp5;have k5:=k5.trans (k4.trans k3);have fi:=(reads_fine (quoOK s) K.num (by decide) g).1 (deep+1) (rowE blaC s j) m c2 (by omega);rw[e5]at fi;obtain⟨f1,f2,f3,f4,f5⟩:=fi;have tv3:=TVs.kp k5 acc xs (TVs.kp ⟨k3.1.symm,k3.2.symm⟩ acc xs tv3);obtain⟨o5,o6,x5,ev⟩:=tv5.agg;generalize hy:strs t.keys=y5 at ev;generalize t.k=tk at ev;generalize t.s=ts at ev;subst ev;refine goW ?_;have hxy:xs.length<=4096:=by omega
  refine r_appDK h5 (R.length+1) (by simp) (by trivial) rfl rfl rfl (by simp;omega) (by simp;omega) (by decide) (by decide) rfl ?_;intro o7 S7 h7 k7;have h7:Hs S7 (plB pid s e m2::(R++[Rs.gr 25 o7 (xs++[.agg [.int .i64 tk,.str ts,.sl 1 o5 y5,.sl 4 o6 x5]])])):=by
   have:=h7;rw[List.set_cons_succ,List.set_append_right _ _ (nR _),Nat.sub_self]at this;exact this
  have tv7:=TVs.kp k7 _ _ (TVs.snoc acc xs tv3 tv5);have k7:Kp S7 S:=Kp.trans k7 k5;generalize hz:xs++[AV.agg [.int .i64 tk,.str ts,.sl 1 o5 y5,.sl 4 o6 x5]]=zs at h7 tv7;have hz2:xs++(List.replicate 1 (AV.agg [AV.int IntKind.i64 0,AV.str [],AV.sl 1 { tok:=none,off:=0,cap:=some 0,isNil:=true } [],AV.sl 4 { tok:=none,off:=0,cap:=some 0,isNil:=true } []])).set 0 (AV.agg [AV.int IntKind.i64 tk,AV.str ts,AV.sl 1 o5 y5,AV.sl 4 o6 x5])=zs:=hz;refine goW ?_;rw[hz2];have d1:=rowE_ge (p:=blaC) (s:=s) (i:=e);have d2:=rowE_le (p:=blaC) (s:=s) (i:=e) (by omega);refine call_rule (by rfl) (hm _ _ _ _ _ (K.bla h7 f2) ?_);rintro r S8 ⟨rfl,h8,k8⟩;have tv8:=TVs.kp k8 _ _ tv7;have k8:=k8.trans k7;refine goW ?_;refine call_rule (by rfl) (hm _ _ _ _ _ (K.is 44 h8) ?_);rintro r S9 ⟨rfl,rfl⟩;refine goW ?_;cases q1:isC s (rowE blaC s e) 44 with
  | true =>
   have q2:=isC_lt q1;rw[q1,if_pos rfl]at hp;refine goW ?_;refine step_ruleO (sx_plI h8 rfl) (goW ?_);rw[wr64 (by omega) (by omega),show ((rowE blaC s e:Nat):Int)+1=((rowE blaC s e+1:Nat):Int) by omega];refine r_plI h8 rfl rfl λS10 h10 k10=>?_;refine goW ?_;exact⟨g,⟨rowE blaC s e+1,m2,acc++[t],o7,zs,h10,TVs.kp k10 _ _ tv8,k10.trans k8,by omega,f4,by simp only[lA,lC,lN];omega,hp,by omega,by omega,rfl⟩,by omega⟩
  | false =>
   rw[q1,if_neg Bool.false_ne_true]at hp;refine goW ?_;refine call_rule (by rfl) (hm _ _ _ _ _ (K.must 93 h8) ?_);intro r S10 hp10;cases q3:isC s (rowE blaC s e) 93 with
   | true =>
    rw[q3,if_pos rfl]at hp10 hp;obtain⟨rfl,h10,k10⟩:=hp10;refine goW ?_;refine⟨_,rfl,?_⟩;rw[hp];refine⟨_,rfl,?_,Hs.init1 h10,k10.trans k8⟩;simp only[TV];exact⟨⟨none,0,some 0,true⟩,o7,zs,rfl,rfl,(h10.ok (R.length+1) (.gr 25 o7 zs) (by simp)).rd,TVs.kp k10 _ _ tv8⟩
   | false =>
    rw[q3,if_neg Bool.false_ne_true]at hp10 hp;have hp10:=(PanT.less (PanP.toT hp10 k8))
    rw[hp,errP_eq];obtain⟨id,i',n',rfl,w1,w2⟩:=hp10;exact⟨_,_,_,rfl,w1,w2⟩
end

set_option maxHeartbeats 64000000
theorem recP_bl {s:List UInt8}{f deep i n:Nat}{keys:List (List UInt8)}{kids:List PT}:recP s f deep (rowE blaC s i) n keys kids=recP s f deep i n keys kids:=by
 cases f with
 | zero=>rw[recP,recP]
 | succ f=>rw[recP,recP,rowE_idem]
theorem hs_mkmS {S:St}{R:List Rs}(h:Hs S R):Hs { S with nm:=S.nm+1,maps:=(S.nm,[])::S.maps } (R++[.mp S.nm []]):=by
 obtain⟨id,S',e,h'⟩:=hs_mkm (gt:=[]) (d:=some 0) (env:=[]) h;simp only[stepO,SR.done.injEq]at e;obtain⟨e1,rfl⟩:=e;have:[(0,Ent.val (AV.map S.nm))]=[(0,Ent.val (AV.map id))]:=e1;have:S.nm=id:=by simpa using this
 rw[<-this]at h';exact h'
theorem mup_kp {gt:GT}{d:Option Nat}{env env':Env}{S S':St}{ek:EqK}{m k x:DOpd}(h:stepO gt d env S (.mup ek m k x)=.done env' S'):Kp S' S:=by
 simp only[stepO,cond_eq_ite]at h
 (repeat' split at h)<;>first | (simp only[SR.done.injEq]at h;obtain⟨_,rfl⟩:=h;exact⟨rfl,rfl⟩) | (cases h)
theorem r_mupK {gt:GT}{d:Option Nat}{env:Env}{S:St}{R:List Rs}{m k x:DOpd}{id:Nat}{l:List (List UInt8×Int)}{s:List UInt8}{v:Int}(hR:Hs S R)(i:Nat)(hi:R[i]? = some (.mp id (mpE l)))(hm:opd env m=some (.map id))(hk:opd env k=some (.str s))(hx:opd env x=some (.int .i64 v)) :
  ∃S',stepO gt d env S (.mup .str m k x)=.done (putV d .undef env) S'/\(Hs S' (R.set i (.mp id (mpE (putS s v l))))/\Kp S' S):=by
 obtain⟨S',h1,h2⟩:=r_mupS (gt:=gt) (d:=d) hR i hi hm hk hx;exact⟨S',h1,h2,mup_kp h1⟩
def rcP (s:List UInt8)(f deep i n:Nat):PR:=if isC s (rowE blaC s (i+1)) 125=true then .ok (.mk 7 [] [] []) (rowE blaC s (i+1)+1) n else recP s f deep (i+1) n [] []
section
variable {gt:GT}{C:CallT}
abbrev E_rc (pid deep id:Nat)(o1 o2:SI)(keys:List (List UInt8))(xs:List AV):Env:=[(1,.val (.int .i64 deep)),(2,.box [.ptr pid 0]),(4,.box [.int .i64 0,.str [],nil1,nil4]),(5,.box [.int .i64 7,.str [],.sl 1 o1 (strs keys),.sl 4 o2 xs]),(6,.val (.map id))]
abbrev R_rc (id:Nat)(o1 o2:SI)(keys:List (List UInt8))(xs:List AV):List Rs:=[Rs.mp id (mpE (ones keys)),Rs.gr 9 o1 (strs keys),Rs.gr 25 o2 xs]
theorem get_rc0 {a:Rs}{R:List Rs}{x y z:Rs}:(a::(R++[x,y,z]))[R.length+1]? = some x:=by simp
theorem get_rc1 {a:Rs}{R:List Rs}{x y z:Rs}:(a::(R++[x,y,z]))[R.length+2]? = some y:=by
 rw[List.getElem?_cons_succ,List.getElem?_append_right (Nat.le_succ _)];show [x,y,z][R.length+1-R.length]? = _;rw[Nat.add_sub_cancel_left];rfl
theorem get_rc2 {a:Rs}{R:List Rs}{x y z:Rs}:(a::(R++[x,y,z]))[R.length+3]? = some z:=by
 rw[List.getElem?_cons_succ,List.getElem?_append_right (by omega),Nat.add_sub_cancel_left];rfl
theorem set_rc0 {a:Rs}{R:List Rs}{x y z w:Rs}:(a::(R++[x,y,z])).set (R.length+1) w=a::(R++[w,y,z]):=by
 rw[List.set_cons_succ,List.set_append_right _ _ (nR _),Nat.sub_self];rfl
theorem set_rc1 {a:Rs}{R:List Rs}{x y z w:Rs}:(a::(R++[x,y,z])).set (R.length+2) w=a::(R++[x,w,z]):=by
 rw[List.set_cons_succ,List.set_append_right _ _ (Nat.le_succ _)];show a::(R++[x,y,z].set (R.length+1-R.length) w)=_;rw[Nat.add_sub_cancel_left];rfl
theorem set_rc2 {a:Rs}{R:List Rs}{x y z w:Rs}:(a::(R++[x,y,z])).set (R.length+3) w=a::(R++[x,y,w]):=by
 rw[List.set_cons_succ,List.set_append_right _ _ (by omega),Nat.add_sub_cancel_left];rfl
theorem record_wp (hm:MonoC C){s:List UInt8}(K:RdCs C s){f:Nat}(hT:∀g,g<f->TreeC C s g){S:St}{R:List Rs}{pid i n deep:Nat}(h:Hs S (plB pid s i n::R))(hi:isC s i 123=true)(hn:n<=4096)(hd:deep<=64)(hf:2*(s.length-(i+1))+2<=f) :
  wpF gt C F94 [.agg [.ptr pid 0],.int .i64 deep] S (RdT pid s R S (rcP s f deep i n)):=by
 have hlt:=isC_lt hi;have hl:=K.len;have hM:=hs_mkmS h;have kM:Kp { S with nm:=S.nm+1,maps:=(S.nm,[])::S.maps } S:=⟨rfl,rfl⟩
 refine⟨rfl,?_⟩;refine goW ?_;have hM:Hs { S with nm:=S.nm+1,maps:=(S.nm,[])::S.maps } (plB pid s i n::(R++[Rs.mp S.nm []])):=hM;generalize S.nm=id at hM ⊢;refine call_rule (by rfl) (hm _ _ _ _ _ (K.must 123 hM) ?_);rw[hi];rintro r S1 ⟨rfl,h1,k1⟩;have k1:=Kp.trans k1 kM;refine goW ?_;refine call_rule (by rfl) (hm _ _ _ _ _ (K.bla h1 (by omega)) ?_);rintro r S2 ⟨rfl,h2,k2⟩;have k2:=k2.trans k1;have b1:=rowE_ge (p:=blaC) (s:=s) (i:=i+1);have b2:=rowE_le (p:=blaC) (s:=s) (i:=i+1) (by omega);refine goW ?_;refine call_rule (by rfl) (hm _ _ _ _ _ (K.is 125 h2) ?_);rintro r S3 ⟨rfl,rfl⟩;refine goW ?_;unfold rcP;cases hc:isC s (rowE blaC s (i+1)) 125 with
 | true =>
  have b3:=isC_lt hc;refine goW ?_;refine step_ruleO (sx_plI h2 rfl) (goW ?_);rw[wr64 (by omega) (by omega),show ((rowE blaC s (i+1):Nat):Int)+1=((rowE blaC s (i+1)+1:Nat):Int) by omega];refine r_plI h2 rfl rfl λS3 h3 k3=>?_;refine goW ?_;refine⟨_,rfl,?_⟩;simp only[if_true];exact⟨_,rfl,TV.leaf rfl rfl rfl,Hs.init1 h3,k3.trans k2⟩
 | false =>
  simp only[Bool.false_eq_true,if_false];refine goW ?_;have hA:Hs S3 (plB pid s (rowE blaC s (i+1)) n::(R++R_rc id ⟨none,0,some 0,true⟩ ⟨none,0,some 0,true⟩ [] [])):=by
   have:=(h2.addNil 9 true).addNil 25 true;simpa[R_rc,mpE,ones,strs] using this
  have hB:recP s f deep (i+1) n [] []=recP s f deep (rowE blaC s (i+1)) n [] []:=recP_bl.symm;generalize recP s f deep (i+1) n [] []=res at hB ⊢;refine loop_rule hm (α:=Nat) (λg env S'=>∃j m keys kids o1 o2 xs,Hs S' (plB pid s j m::(R++R_rc id o1 o2 keys xs))/\TVs S' kids xs/\Kp S' S/\j<=s.length/\m<=4096/\keys.length<=m/\kids.length<=m/\res=recP s g deep j m keys kids/\2*(s.length-j)+2<=g/\g<=f/\env=E_rc pid deep id o1 o2 keys xs) (λg=>g) ?_ (a:=f) ⟨_,n,[],[],⟨none,0,some 0,true⟩,⟨none,0,some 0,true⟩,[],hA,(by simp only[TVs]),k2,b2,hn,Nat.zero_le _,Nat.zero_le _,hB,by omega,nR _,rfl⟩;rintro g env S4 ⟨j,m,keys,kids,o1,o2,xs,h4,tv4,k4,hj,hm2,ha,ha2,hp,hg,hgf,rfl⟩;cases g with
  | zero=>omega
  | succ g =>
  have c1:=rowE_ge (p:=blaC) (s:=s) (i:=j);have c2:=rowE_le (p:=blaC) (s:=s) hj;have hxl:=TVs.len kids xs tv4;rw[recP]at hp;refine goW ?_;refine call_rule (by rfl) (hm _ _ _ _ _ (K.bla h4 hj) ?_);rintro r S5 ⟨rfl,h5,k5⟩;have tv5:=TVs.kp k5 _ _ tv4;have k5:=k5.trans k4;generalize rowE blaC s j=a at hp h5 c1 c2;refine goW ?_;refine step_ruleO (sx_plI h5 rfl) (goW ?_);refine call_rule (by rfl) (hm _ _ _ _ _ (K.is 34 h5) ?_);rintro r S6 ⟨rfl,rfl⟩;refine goW ?_;cases q1:isC s a 34 with
  | false =>
   rw[q1,if_neg Bool.false_ne_true]at hp;refine goW ?_;refine call_rule (by rfl) (hm _ _ _ _ _ (K.bad h5) ?_);intro r S10 hp10;have hp10:=(PanT.less (PanP.toT hp10 k5))
   rw[hp,errP_eq];obtain⟨id,i',n',rfl,w1,w2⟩:=hp10;exact⟨_,_,_,rfl,w1,w2⟩
  | true =>
  rw[q1,if_pos rfl]at hp;refine goW ?_;refine call_rule (by rfl) (hm _ _ _ _ _ (K.quo h5 c2) ?_);intro r S7 hp7;cases e7:quoB (s.drop a) with
  | bad u w =>
   rw[e7]at hp7 hp;have hp:res=.bad (a+u) w:=hp;have hp7:=(PanT.less hp7).tr k5;rw[hp];obtain⟨id,i',n',rfl,w1,w2⟩:=hp7;exact⟨_,_,_,rfl,w1,w2⟩
  | ok key u =>
  rw[e7]at hp7 hp;obtain⟨rfl,h7,k7⟩:=hp7;obtain⟨u1,u2⟩:=(quoOK s).1 a key u e7;have tv7:=TVs.kp k7 _ _ tv5;have k7:=k7.trans k5;refine goW ?_;refine step_ruleO (sx_lkpS h7 (R.length+1) get_rc0 rfl rfl) ?_;by_cases hs:key∈keys
  ·obtain⟨jj,hjj⟩:=posS_ones hs;rw[hjj];have hp:res=.bad a 15:=by rw[hp];exact if_pos hs
   refine goW ?_;rw[show wr .i64 ((1:Int)+1)=2 from rfl];refine st_runP (r_mupK h7 (R.length+1) get_rc0 rfl rfl rfl) trivial ?_;rintro S8 ⟨h8,k8⟩;rw[set_rc0]at h8;refine goW ?_;refine step_ruleO (sx_lkpS h8 (R.length+1) get_rc0 rfl rfl) ?_;rw[show posS key (putS key 2 (ones keys)) 0=some (jj,2) by unfold putS;rw[hjj];exact posS_set hjj];refine goW ?_;refine call_rule (by rfl) (hm _ _ _ _ _ (K.fail a 15 h8) ?_);intro r S9 hp9;have hp9:=(PanT.less (PanP.toT hp9 (Kp.trans k8 k7)))
   rw[hp];obtain⟨id,i',n',rfl,w1,w2⟩:=hp9;exact⟨_,_,_,rfl,w1,w2⟩
  have hjj:=posS_no hs;rw[hjj];have hp:res=(if isC s (rowE blaC s (a+u)) 58=true then
     match treeP s g (deep+1) (rowE blaC s (rowE blaC s (a+u)+1)) m with
     |.bad a w=>.bad a w
     |.ok t e n' =>
      if isC s (rowE blaC s e) 44=true then recP s g deep (rowE blaC s e+1) n' (keys++[key]) (kids++[t])
      else if isC s (rowE blaC s e) 125=true then .ok (.mk 7 [] (keys++[key]) (kids++[t])) (rowE blaC s e+1) n'
      else errP s (rowE blaC s e)
    else errP s (rowE blaC s (a+u))):=by rw[hp];exact if_neg hs
  refine goW ?_;rw[show wr .i64 ((0:Int)+1)=1 from rfl];refine st_runP (r_mupK h7 (R.length+1) get_rc0 rfl rfl rfl) trivial ?_;rintro S8 ⟨h8,k8⟩;rw[set_rc0]at h8;refine goW ?_;refine step_ruleO (sx_lkpS h8 (R.length+1) get_rc0 rfl rfl) ?_;rw[show posS key (putS key 1 (ones keys)) 0=some (0+(ones keys).length,1) by unfold putS;rw[hjj];exact posS_app hjj];have hput:putS key 1 (ones keys)=ones (keys++[key]):=by unfold putS;rw[hjj];simp[ones]
  rw[hput]at h8;have tv8:=TVs.kp k8 _ _ tv7;have k8:=Kp.trans k8 k7;refine goW ?_;refine call_rule (by rfl) (hm _ _ _ _ _ (K.bla h8 u2) ?_);rintro r S9 ⟨rfl,h9,k9⟩;have tv9:=TVs.kp k9 _ _ tv8;have k9:=Kp.trans k9 k8;have d1:=rowE_ge (p:=blaC) (s:=s) (i:=a+u);have d2:=rowE_le (p:=blaC) (s:=s) (i:=a+u) u2;generalize rowE blaC s (a+u)=b at hp h9 d1 d2;refine goW ?_;refine call_rule (by rfl) (hm _ _ _ _ _ (K.must 58 h9) ?_);intro r S10 hp10;cases q3:isC s b 58 with
  | false =>
   rw[q3,if_neg Bool.false_ne_true]at hp10 hp;have hp10:=(PanT.less (PanP.toT hp10 k9))
   rw[hp,errP_eq];obtain⟨id,i',n',rfl,w1,w2⟩:=hp10;exact⟨_,_,_,rfl,w1,w2⟩
  | true =>
  have q4:=isC_lt q3;rw[q3,if_pos rfl]at hp10 hp;obtain⟨rfl,h10,k10⟩:=hp10;have tv10:=TVs.kp k10 _ _ tv9;have k10:=Kp.trans k10 k9;refine goW ?_;refine call_rule (by rfl) (hm _ _ _ _ _ (K.bla h10 q4) ?_);rintro r S11 ⟨rfl,h11,k11⟩;have tv11:=TVs.kp k11 _ _ tv10;have k11:=Kp.trans k11 k10;have d3:=rowE_ge (p:=blaC) (s:=s) (i:=b+1);have d4:=rowE_le (p:=blaC) (s:=s) (i:=b+1) q4;generalize rowE blaC s (b+1)=z at hp h11 d3 d4;refine goW ?_;obtain⟨h12,hsrc⟩:=h11.bldT 9 1;have hsl:(strs keys).length<=4096:=by rw[strs_length];omega
  refine r_appK h12 (R.length+2) get_rc1 trivial rfl rfl (hsrc _ _ _) (by simp;omega) (by simp;omega) (by decide) (by decide) rfl ?_;intro o3 S13 h13 k13;rw[set_rc1]at h13;have tv13:=TVs.kp (S':=S13) (S:=S11) k13 _ _ tv11;have k13:Kp S13 S:=Kp.trans (S':=S11) k13 k11;have hk2:strs keys++(List.replicate 1 (AV.str [])).set 0 (AV.str key)=strs (keys++[key]):=by simp[strs]
  rw[hk2]at h13 ⊢;refine goW ?_;rw[wr64 (by omega) (by omega),show (deep:Int)+1=((deep+1:Nat):Int) by omega];refine call_ruleD (by rfl) (hm _ _ _ _ _ (hT g (by omega) h13 d4 hm2 (by omega) (by omega)) ?_);intro r S14 hp14;cases e14:treeP s g (deep+1) z m with
  | bad a w =>
   rw[e14]at hp14 hp;have hp:res=.bad a w:=hp;have hp14:=(PanT.less hp14).tr k13;obtain⟨id,i',n',rfl,q1,q2⟩:=hp14;rw[hp];exact⟨_,_,_,rfl,q1,q2⟩
  | ok t e m2 =>
  rw[e14]at hp14 hp;have hp:res=if isC s (rowE blaC s e) 44=true then recP s g deep (rowE blaC s e+1) m2 (keys++[key]) (kids++[t]) else if isC s (rowE blaC s e) 125=true then .ok (.mk 7 [] (keys++[key]) (kids++[t])) (rowE blaC s e+1) m2 else errP s (rowE blaC s e):=hp
  obtain⟨v,rfl,tvv,h14,k14⟩:=hp14;have tv14:=TVs.kp k14 _ _ tv13;have k14:=Kp.trans k14 k13;have fi:=(reads_fine (quoOK s) K.num (by decide) g).1 (deep+1) z m d4 (by omega);rw[e14]at fi;obtain⟨f1,f2,f3,f4,f5⟩:=fi;obtain⟨o5,o6,x5,ev⟩:=tvv.agg;generalize hy:strs t.keys=y5 at ev;generalize t.k=tk at ev;generalize t.s=ts at ev;subst ev;refine goW ?_;have hxy:xs.length<=4096:=by omega
  refine r_appDK h14 (R.length+3) get_rc2 (by trivial) rfl rfl rfl (by simp;omega) (by simp;omega) (by decide) (by decide) rfl ?_;intro o7 S15 h15 k15;rw[set_rc2]at h15;have tv15:=TVs.kp k15 _ _ (TVs.snoc kids xs tv14 tvv);have k15:Kp S15 S:=Kp.trans k15 k14;have hz2:xs++(List.replicate 1 (AV.agg [AV.int IntKind.i64 0,AV.str [],AV.sl 1 { tok:=none,off:=0,cap:=some 0,isNil:=true } [],AV.sl 4 { tok:=none,off:=0,cap:=some 0,isNil:=true } []])).set 0 (AV.agg [AV.int IntKind.i64 tk,AV.str ts,AV.sl 1 o5 y5,AV.sl 4 o6 x5])=xs++[AV.agg [.int .i64 tk,.str ts,.sl 1 o5 y5,.sl 4 o6 x5]]:=rfl;rw[hz2]at h15;generalize hz:xs++[AV.agg [.int .i64 tk,.str ts,.sl 1 o5 y5,.sl 4 o6 x5]]=zs at hz2 h15 tv15;refine goW ?_;rw[hz2];have d5:=rowE_ge (p:=blaC) (s:=s) (i:=e);have d6:=rowE_le (p:=blaC) (s:=s) (i:=e) (by omega);refine call_rule (by rfl) (hm _ _ _ _ _ (K.bla h15 f2) ?_);rintro r S16 ⟨rfl,h16,k16⟩;have tv16:=TVs.kp k16 _ _ tv15;have k16:=k16.trans k15;refine goW ?_;refine call_rule (by rfl) (hm _ _ _ _ _ (K.is 44 h16) ?_);rintro r S17 ⟨rfl,rfl⟩;refine goW ?_;cases w1:isC s (rowE blaC s e) 44 with
  | true =>
   have w2:=isC_lt w1;rw[w1,if_pos rfl]at hp;refine goW ?_;refine step_ruleO (sx_plI h16 rfl) (goW ?_);rw[wr64 (by omega) (by omega),show ((rowE blaC s e:Nat):Int)+1=((rowE blaC s e+1:Nat):Int) by omega];refine r_plI h16 rfl rfl λS18 h18 k18=>?_;refine goW ?_;exact⟨g,⟨rowE blaC s e+1,m2,keys++[key],kids++[t],o3,o7,zs,h18,TVs.kp k18 _ _ tv16,k18.trans k16,by omega,f4,by simp only[lA,lC,lN];omega,by simp only[lA,lC,lN];omega,hp,by omega,by omega,rfl⟩,by omega⟩
  | false =>
   rw[w1,if_neg Bool.false_ne_true]at hp;refine goW ?_;refine call_rule (by rfl) (hm _ _ _ _ _ (K.must 125 h16) ?_);intro r S18 hp18;cases w3:isC s (rowE blaC s e) 125 with
   | true =>
    rw[w3,if_pos rfl]at hp18 hp;obtain⟨rfl,h18,k18⟩:=hp18;refine goW ?_;refine⟨_,rfl,?_⟩;rw[hp];refine⟨_,rfl,?_,Hs.init1 h18,k18.trans k16⟩;simp only[TV];exact⟨o3,o7,zs,rfl,(h18.ok (R.length+2) _ get_rc1).rd,(h18.ok (R.length+3) _ get_rc2).rd,TVs.kp k18 _ _ tv16⟩
   | false =>
    rw[w3,if_neg Bool.false_ne_true]at hp18 hp;have hp18:=(PanT.less (PanP.toT hp18 k16))
    rw[hp,errP_eq];obtain⟨id,i',n',rfl,w4,w5⟩:=hp18;exact⟨_,_,_,rfl,w4,w5⟩
end

set_option maxHeartbeats 64000000
theorem isC_of {s:List UInt8}{i c:Nat}{b:UInt8}(h:s[i]? = some b):(isC s i c=true)=(b.toNat=c):=by
 unfold isC;rw[h];simp only;rw[beq_dec,eq_iff_iff,beq_iff_eq];omega
def scaQ (s:List UInt8)(deep i n:Nat):PR:=match scaR s i with
 |.ok k t e=>nodP deep i n (.ok (.mk k t [] []) e (n+1))
 |.bad a w=>.bad a w
theorem scaQ_eq {s:List UInt8}(hnn:∀t:List UInt8,0<=(normB t).2){deep i n:Nat}{c:UInt8}(hc:s[i]? = some c):scaQ s deep i n=scaP s deep i n c:=by
 unfold scaQ scaR scaP;rw[hc];simp only;by_cases h1:(digC c || Nat.beq c.toNat 45)=true
 ·rw[if_pos h1,if_pos h1];by_cases h2:(normB (midP s i (rowE numC s i))).2=0
  ·rw[if_pos h2,if_pos h2]
  ·rw[if_neg h2,if_neg h2];simp only;rw[Int.toNat_of_nonneg (hnn _)]
 ·rw[if_neg h1,if_neg h1];by_cases h2:letC c=true
  ·rw[if_pos h2,if_pos h2];by_cases h3:midP s i (rowE letC s i)=w4null
   ·rw[if_pos h3,if_pos h3]
   ·rw[if_neg h3,if_neg h3];by_cases h4:midP s i (rowE letC s i)=w4true\/midP s i (rowE letC s i)=w5false
    ·rw[if_pos h4,if_pos h4]
    ·rw[if_neg h4,if_neg h4];rfl
  ·rw[if_neg h2,if_neg h2];rfl
def quoQ (s:List UInt8)(i n:Nat):PR:=match quoB (s.drop i) with |.ok t k=>.ok (.mk 4 t [] []) (i+k) (n+1) |.bad a w=>.bad (i+a) w
theorem treeP_eq {s:List UInt8}(hnn:∀t:List UInt8,0<=(normB t).2){f deep i n:Nat}(hi:i<=s.length):treeP s (f+1) deep i n =
  if isC s i 34=true then nodP deep i n (quoQ s i n) else if isC s i 91=true then nodP deep i n (lisP s f deep i (n+1)) else if isC s i 123=true then nodP deep i n (rcP s f deep i (n+1))
  else if isC s i 64=true then (if timeB (midP s (i+1) (rowE timC s (i+1)))=true then nodP deep i n (.ok (.mk 5 (midP s (i+1) (rowE timC s (i+1))) [] []) (rowE timC s (i+1)) (n+1)) else .bad i 20) else scaQ s deep i n:=by
 rw[treeP];cases hc:s[i]? with
 | none =>
  have e:∀c,¬isC s i c=true:=λc h=>by unfold isC at h;rw[hc]at h;cases h
  rw[if_neg (e _),if_neg (e _),if_neg (e _),if_neg (e _)];unfold scaQ scaR;rw[hc];rfl
 | some c =>
  simp only[isC_of hc];rw[scaQ_eq hnn hc];rfl
def ListC (C:CallT)(s:List UInt8)(f:Nat):Prop:=∀{S:St} {R:List Rs} {pid i n deep:Nat},Hs S (plB pid s i n::R)->isC s i 91=true->n<=4096->deep<=64->2*(s.length-(i+1))+2<=f->C 93 [.agg [.ptr pid 0],.int .i64 deep] S (RdT pid s R S (lisP s f deep i n))
def RecC (C:CallT)(s:List UInt8)(f:Nat):Prop:=∀{S:St} {R:List Rs} {pid i n deep:Nat},Hs S (plB pid s i n::R)->isC s i 123=true->n<=4096->deep<=64->2*(s.length-(i+1))+2<=f->C 94 [.agg [.ptr pid 0],.int .i64 deep] S (RdT pid s R S (rcP s f deep i n))
section
variable {gt:GT}{C:CallT}
theorem tree_wp (hm:MonoC C){s:List UInt8}(K:RdCs C s){f:Nat}(hL:ListC C s f)(hR:RecC C s f){S:St}{R:List Rs}{pid i n deep:Nat}(h:Hs S (plB pid s i n::R))(hi:i<=s.length)(hn:n<=4096)(hd:deep<=65)(hf:2*(s.length-i)+1<=f+1) :
  wpF gt C F54 [.agg [.ptr pid 0],.int .i64 deep] S (RdT pid s R S (treeP s (f+1) deep i n)):=by
 have hl:=K.len;have hp:=treeP_eq (s:=s) K.num (f:=f) (deep:=deep) (n:=n) hi;generalize treeP s (f+1) deep i n=res at hp ⊢;refine⟨rfl,?_⟩;refine goW ?_;refine step_ruleO (sx_plI h rfl) (goW ?_);refine call_rule (by rfl) (hm _ _ _ _ _ (K.is 34 h) ?_);rintro r S1 ⟨rfl,rfl⟩;refine goW ?_;cases q1:isC s i 34 with
 | true =>
  rw[q1,if_pos rfl]at hp;refine goW ?_;refine call_rule (by rfl) (hm _ _ _ _ _ (K.node h hn) ?_);intro r S2 hp2;by_cases n1:64<deep
  ·rw[if_pos n1]at hp2;have hp:res=.bad i 4:=by rw[hp];unfold nodP;rw[if_pos n1]
   have hp2:=PanT.tr hp2 (Kp.refl _);obtain⟨id,i',n',rfl,w1,w2⟩:=hp2;rw[hp];exact⟨_,_,_,rfl,w1,w2⟩
  by_cases n2:4096<n+1
  ·rw[if_neg n1,if_pos n2]at hp2;have hp:res=.bad i 3:=by rw[hp];unfold nodP;rw[if_neg n1,if_pos n2]
   have hp2:=PanT.tr hp2 (Kp.refl _);obtain⟨id,i',n',rfl,w1,w2⟩:=hp2;rw[hp];exact⟨_,_,_,rfl,w1,w2⟩
  rw[if_neg n1,if_neg n2]at hp2;obtain⟨rfl,h2,k2⟩:=hp2;have k2:=Kp.trans k2 (Kp.refl _);have hp:res=quoQ s i n:=by rw[hp];unfold nodP;rw[if_neg n1,if_neg n2]
  refine goW ?_;refine call_rule (by rfl) (hm _ _ _ _ _ (K.quo h2 hi) ?_);intro r S3 hp3;rw[hp];unfold quoQ;cases e3:quoB (s.drop i) with
  | bad a w =>
   rw[e3]at hp3;have hp3:=PanT.tr hp3 k2;obtain⟨id,i',n',rfl,w1,w2⟩:=hp3;exact⟨_,_,_,rfl,w1,w2⟩
  | ok t k =>
   rw[e3]at hp3;obtain⟨rfl,h3,k3⟩:=hp3;refine goW ?_;exact⟨_,rfl,_,rfl,TV.leaf rfl rfl rfl,h3,k3.trans k2⟩
 | false =>
 rw[q1,if_neg Bool.false_ne_true]at hp;refine goW ?_;refine call_rule (by rfl) (hm _ _ _ _ _ (K.is 91 h) ?_);rintro r S1 ⟨rfl,rfl⟩;refine goW ?_;cases q2:isC s i 91 with
 | true =>
  have q9:=isC_lt q2;rw[q2,if_pos rfl]at hp;refine goW ?_;refine call_rule (by rfl) (hm _ _ _ _ _ (K.node h hn) ?_);intro r S2 hp2;by_cases n1:64<deep
  ·rw[if_pos n1]at hp2;have hp:res=.bad i 4:=by rw[hp];unfold nodP;rw[if_pos n1]
   have hp2:=PanT.tr hp2 (Kp.refl _);obtain⟨id,i',n',rfl,w1,w2⟩:=hp2;rw[hp];exact⟨_,_,_,rfl,w1,w2⟩
  by_cases n2:4096<n+1
  ·rw[if_neg n1,if_pos n2]at hp2;have hp:res=.bad i 3:=by rw[hp];unfold nodP;rw[if_neg n1,if_pos n2]
   have hp2:=PanT.tr hp2 (Kp.refl _);obtain⟨id,i',n',rfl,w1,w2⟩:=hp2;rw[hp];exact⟨_,_,_,rfl,w1,w2⟩
  rw[if_neg n1,if_neg n2]at hp2;obtain⟨rfl,h2,k2⟩:=hp2;have k2:=Kp.trans k2 (Kp.refl _);have hp:res=lisP s f deep i (n+1):=by rw[hp];unfold nodP;rw[if_neg n1,if_neg n2]
  refine goW ?_;refine call_rule (by rfl) (hm _ _ _ _ _ (hL h2 q2 (by omega) (by omega) (by omega)) ?_);intro r S3 hp3;rw[hp];cases e3:lisP s f deep i (n+1) with
  | bad a w =>
   rw[e3]at hp3;have hp3:=PanT.tr hp3 k2;obtain⟨id,i',n',rfl,w1,w2⟩:=hp3;exact⟨_,_,_,rfl,w1,w2⟩
  | ok t e m =>
   rw[e3]at hp3;obtain⟨v,rfl,tv,h3,k3⟩:=hp3;obtain⟨o5,o6,x5,ev⟩:=tv.agg;generalize hy:strs t.keys=y5 at ev;generalize t.k=tk at ev;generalize t.s=ts at ev;subst ev;refine goW ?_;exact⟨_,rfl,_,rfl,tv,h3,k3.trans k2⟩
 | false =>
 rw[q2,if_neg Bool.false_ne_true]at hp;refine goW ?_;refine call_rule (by rfl) (hm _ _ _ _ _ (K.is 123 h) ?_);rintro r S1 ⟨rfl,rfl⟩;refine goW ?_;cases q3:isC s i 123 with
 | true =>
  have q9:=isC_lt q3;rw[q3,if_pos rfl]at hp;refine goW ?_;refine call_rule (by rfl) (hm _ _ _ _ _ (K.node h hn) ?_);intro r S2 hp2;by_cases n1:64<deep
  ·rw[if_pos n1]at hp2;have hp:res=.bad i 4:=by rw[hp];unfold nodP;rw[if_pos n1]
   have hp2:=PanT.tr hp2 (Kp.refl _);obtain⟨id,i',n',rfl,w1,w2⟩:=hp2;rw[hp];exact⟨_,_,_,rfl,w1,w2⟩
  by_cases n2:4096<n+1
  ·rw[if_neg n1,if_pos n2]at hp2;have hp:res=.bad i 3:=by rw[hp];unfold nodP;rw[if_neg n1,if_pos n2]
   have hp2:=PanT.tr hp2 (Kp.refl _);obtain⟨id,i',n',rfl,w1,w2⟩:=hp2;rw[hp];exact⟨_,_,_,rfl,w1,w2⟩
  rw[if_neg n1,if_neg n2]at hp2;obtain⟨rfl,h2,k2⟩:=hp2;have k2:=Kp.trans k2 (Kp.refl _);have hp:res=rcP s f deep i (n+1):=by rw[hp];unfold nodP;rw[if_neg n1,if_neg n2]
  refine goW ?_;refine call_rule (by rfl) (hm _ _ _ _ _ (hR h2 q3 (by omega) (by omega) (by omega)) ?_);intro r S3 hp3;rw[hp];cases e3:rcP s f deep i (n+1) with
  | bad a w =>
   rw[e3]at hp3;have hp3:=PanT.tr hp3 k2;obtain⟨id,i',n',rfl,w1,w2⟩:=hp3;exact⟨_,_,_,rfl,w1,w2⟩
  | ok t e m =>
   rw[e3]at hp3;obtain⟨v,rfl,tv,h3,k3⟩:=hp3;obtain⟨o5,o6,x5,ev⟩:=tv.agg;generalize hy:strs t.keys=y5 at ev;generalize t.k=tk at ev;generalize t.s=ts at ev;subst ev;refine goW ?_;exact⟨_,rfl,_,rfl,tv,h3,k3.trans k2⟩
 | false =>
 rw[q3,if_neg Bool.false_ne_true]at hp;refine goW ?_;refine call_rule (by rfl) (hm _ _ _ _ _ (K.is 64 h) ?_);rintro r S1 ⟨rfl,rfl⟩;refine goW ?_;cases q4:isC s i 64 with
 | true =>
  have q9:=isC_lt q4;rw[q4,if_pos rfl]at hp;refine goW ?_;refine step_ruleO (sx_plI h rfl) (goW ?_);rw[wr64 (by omega) (by omega),show (i:Int)+1=((i+1:Nat):Int) by omega];refine r_plI h rfl rfl λS5 h5 k5=>?_;refine goW ?_;refine call_rule (by rfl) (hm _ _ _ _ _ (K.rowT h5 (by omega)) ?_);rintro r S6 ⟨rfl,h6,k6⟩;have k6:=k6.trans k5;have hml:(midP s (i+1) (rowE timC s (i+1))).length<=16777216:=by unfold midP;rw[lT,lD];omega
  generalize midP s (i+1) (rowE timC s (i+1))=w at hml hp;generalize rowE timC s (i+1)=e at hp h6;refine goW ?_;refine call_pf hm (by rfl) (K.time w hml) (goW ?_);cases q5:timeB w with
  | false =>
   rw[q5,if_neg Bool.false_ne_true]at hp;refine goW ?_;refine call_rule (by rfl) (hm _ _ _ _ _ (K.fail i 20 h6) ?_);intro r S9 hp9;have hp9:=PanP.toT hp9 k6;rw[hp];obtain⟨id,i',n',rfl,w1,w2⟩:=hp9;exact⟨_,_,_,rfl,w1,w2⟩
  | true =>
   rw[q5,if_pos rfl]at hp;refine goW ?_;refine call_rule (by rfl) (hm _ _ _ _ _ (K.node h6 hn) ?_);intro r S2 hp2;by_cases n1:64<deep
   ·rw[if_pos n1]at hp2;have hp:res=.bad i 4:=by rw[hp];unfold nodP;rw[if_pos n1]
    have hp2:=PanT.tr hp2 k6;obtain⟨id,i',n',rfl,w1,w2⟩:=hp2;rw[hp];exact⟨_,_,_,rfl,w1,w2⟩
   by_cases n2:4096<n+1
   ·rw[if_neg n1,if_pos n2]at hp2;have hp:res=.bad i 3:=by rw[hp];unfold nodP;rw[if_neg n1,if_pos n2]
    have hp2:=PanT.tr hp2 k6;obtain⟨id,i',n',rfl,w1,w2⟩:=hp2;rw[hp];exact⟨_,_,_,rfl,w1,w2⟩
   rw[if_neg n1,if_neg n2]at hp2;obtain⟨rfl,h2,k2⟩:=hp2;have k2:=Kp.trans k2 k6;have hp:res=.ok (.mk 5 w [] []) e (n+1):=by rw[hp];unfold nodP;rw[if_neg n1,if_neg n2]
   refine goW ?_;refine⟨_,rfl,?_⟩;rw[hp];exact⟨_,rfl,TV.leaf rfl rfl rfl,h2,k2⟩
 | false =>
 rw[q4,if_neg Bool.false_ne_true]at hp;refine goW ?_;refine call_rule (by rfl) (hm _ _ _ _ _ (K.sca h hi) ?_);intro r S7 hp3;unfold scaQ at hp;unfold ScaP at hp3;cases e3:scaR s i with
 | bad a w =>
  rw[e3]at hp3 hp;have hp:res=.bad a w:=hp;obtain⟨id,i',n',rfl,w1,w2⟩:=hp3;rw[hp];exact⟨_,_,_,rfl,w1,w2⟩
 | ok tk ts e =>
  rw[e3]at hp3 hp;have hp:res=nodP deep i n (.ok (.mk tk ts [] []) e (n+1)):=hp;obtain⟨v,rfl,tv,h4,k4⟩:=hp3;obtain⟨o5,o6,x5,ev⟩:=tv.agg;simp only[PT.k,PT.s,PT.keys]at ev;generalize hy:strs []=y5 at ev;subst ev;refine goW ?_;refine call_rule (by rfl) (hm _ _ _ _ _ (K.node h4 hn) ?_);intro r S2 hp2;by_cases n1:64<deep
  ·rw[if_pos n1]at hp2;have hp:res=.bad i 4:=by rw[hp];unfold nodP;rw[if_pos n1]
   have hp2:=PanT.tr hp2 k4;obtain⟨id,i',n',rfl,w1,w2⟩:=hp2;rw[hp];exact⟨_,_,_,rfl,w1,w2⟩
  by_cases n2:4096<n+1
  ·rw[if_neg n1,if_pos n2]at hp2;have hp:res=.bad i 3:=by rw[hp];unfold nodP;rw[if_neg n1,if_pos n2]
   have hp2:=PanT.tr hp2 k4;obtain⟨id,i',n',rfl,w1,w2⟩:=hp2;rw[hp];exact⟨_,_,_,rfl,w1,w2⟩
  rw[if_neg n1,if_neg n2]at hp2;obtain⟨rfl,h2,k2⟩:=hp2;have k2:=Kp.trans k2 k4;have hp:res=.ok (.mk tk ts [] []) e (n+1):=by rw[hp];unfold nodP;rw[if_neg n1,if_neg n2]
  refine goW ?_;refine⟨_,rfl,?_⟩;rw[hp];exact⟨_,rfl,TV.kp (S:=S7) ⟨k2.1.trans k4.1.symm,k2.2.trans k4.2.symm⟩ _ _ tv,h2,k2⟩
end

set_option maxHeartbeats 64000000
def parseP (s:List UInt8):PR:=match treeP s (2*s.length+2) 1 (rowE blaC s 0) 0 with
 |.bad a w=>.bad a w
 |.ok t e m=>if rowE blaC s e<s.length then .bad (rowE blaC s e) 13 else .ok t (rowE blaC s e) m
abbrev zTc:List AV:=[.int .i64 0,.str [],nil1,nil4]
abbrev R_pa (sid tid:Nat)(s:List UInt8)(cs:List AV):List Rs:=[Rs.bx sid 9 [.str s],Rs.bx tid 25 cs]
theorem get2_0 {a:Rs}{R:List Rs}{x y:Rs}:(a::(R++[x,y]))[R.length+1]? = some x:=by simp
theorem get2_1 {a:Rs}{R:List Rs}{x y:Rs}:(a::(R++[x,y]))[R.length+2]? = some y:=by
 rw[List.getElem?_cons_succ,List.getElem?_append_right (Nat.le_succ _)];show [x,y][R.length+1-R.length]? = _;rw[Nat.add_sub_cancel_left];rfl
theorem set2_1 {a:Rs}{R:List Rs}{x y w:Rs}:(a::(R++[x,y])).set (R.length+2) w=a::(R++[x,w]):=by
 rw[List.set_cons_succ,List.set_append_right _ _ (Nat.le_succ _)];show a::(R++[x,y].set (R.length+1-R.length) w)=_;rw[Nat.add_sub_cancel_left];rfl
def ParP (pid sid tid:Nat)(s:List UInt8)(R:List Rs)(S:St):Res->St->Prop:=λr S'=>match parseP s with
 |.ok t e m=>∃cs,r=.ret (.tup [])/\TV S' t (.agg cs)/\Hs S' (plB pid s e m::(R++R_pa sid tid s cs))/\Kp S' S
 |.bad a w=>PanT pid s R a w.toNat S r S'
section
variable {gt:GT}{C:CallT}
theorem sx_stB {d:Option Nat}{env:Env}{S:St}{a x:DOpd}{id off sz:Nat}{v:AV}{ty:TypeId}{cs:List AV}(hb:lk S.boxes id=some (some (ty,cs)))(ha:loc env a=some (.hp id off))(hx:opd env x=some v)
  (h1:(Nat.beq v.cells.length sz && v.cells.all ok1)=true) (h2:Nat.ble (off+v.cells.length) cs.length=true) :
  stepO gt d env S (.st sz a x)=.done (putV d .undef env) { S with boxes:=(id,some (ty,splice cs off v.cells))::S.boxes }:=by
 simp only[stepO,ha,hx,h1,stL,hb,h2,cond_true]
theorem r_stB {d:Option Nat}{env:Env}{S:St}{R:List Rs}{K:Env->St->Prop}{Q:Ex->Env->St->Prop}{a x:DOpd}{id off sz i:Nat}{v:AV}{ty:TypeId}{cs cs':List AV}(h:Hs S R)(hi:R[i]? = some (.bx id ty cs))(ha:loc env a=some (.hp id off))(hx:opd env x=some v)
  (h1:(Nat.beq v.cells.length sz && v.cells.all ok1)=true) (h2:Nat.ble (off+v.cells.length) cs.length=true) (h3:splice cs off v.cells=cs')
  (k:∀S',Hs S' (R.set i (.bx id ty cs'))->Kp S' S->K (putV d .undef env) S'):afterS C d env S K Q (stepI gt ⟨d,.st sz a x,none⟩ env S):=by
 subst h3;exact step_ruleO (sx_stB (h.ok i _ hi).2 ha hx h1 h2) (k _ (h.boxTo hi _) ⟨rfl,rfl⟩)
theorem parse1_wp (hm:MonoC C){s:List UInt8}(K:RdCs C s)(hT:∀f,TreeC C s f){S:St}{R:List Rs}{pid sid tid:Nat}(h:Hs S (plB pid s 0 0::(R++R_pa sid tid s zTc))) :
  wpF gt C F52 [.ptr pid 0,.ptr tid 0,.ptr sid 0] S (ParP pid sid tid s R S):=by
 have hl:=K.len;have b1:=rowE_le (p:=blaC) (s:=s) (i:=0) (Nat.zero_le _);unfold ParP;have hp:parseP s=match treeP s (2*s.length+2) 1 (rowE blaC s 0) 0 with
  |.bad a w=>.bad a w
  |.ok t e m=>if rowE blaC s e<s.length then .bad (rowE blaC s e) 13 else .ok t (rowE blaC s e) m:=rfl
 generalize parseP s=res at hp ⊢;refine⟨rfl,?_⟩;refine goW ?_;refine call_rule (by rfl) (hm _ _ _ _ _ (K.bla h (Nat.zero_le _)) ?_);rintro r S2 ⟨rfl,h2,k2⟩;refine goW ?_;refine call_rule (by rfl) (hm _ _ _ _ _ (hT (2*s.length+2) (deep:=1) h2 b1 (by omega) (by omega) (by omega)) ?_);intro r S3 hp3;have fi:=(reads_fine (quoOK s) K.num (by decide) (2*s.length+2)).1 1 (rowE blaC s 0) 0 b1 (by omega);cases e3:treeP s (2*s.length+2) 1 (rowE blaC s 0) 0 with
 | bad a w =>
  rw[e3]at hp3 hp;have hp:res=.bad a w:=hp;have hp3:=(PanT.less hp3).tr k2;obtain⟨id,i',n',rfl,w1,w2⟩:=hp3;rw[hp];exact⟨_,_,_,rfl,w1,w2⟩
 | ok t e m =>
 rw[e3]at hp3 hp fi;have hp:res=if rowE blaC s e<s.length then .bad (rowE blaC s e) 13 else .ok t (rowE blaC s e) m:=hp
 obtain⟨f1,f2,f3,f4,f5⟩:=fi;obtain⟨v,rfl,tv,h3,k3⟩:=hp3;have k3:=k3.trans k2;obtain⟨o5,o6,x5,ev⟩:=tv.agg;generalize hy:strs t.keys=y5 at ev;generalize t.k=tk at ev;generalize t.s=ts at ev;subst ev;refine goW ?_;refine r_stB h3 get2_1 rfl rfl rfl rfl rfl λS4 h4 k4=>?_;rw[set2_1]at h4;have tv4:=TV.kp k4 _ _ tv;have k4:=k4.trans k3;refine goW ?_;refine call_rule (by rfl) (hm _ _ _ _ _ (K.bla h4 f2) ?_);rintro r S5 ⟨rfl,h5,k5⟩;have tv5:=TV.kp k5 _ _ tv4;have k5:=k5.trans k4;refine goW ?_;refine step_ruleDO rfl rfl (sx_plI h5 rfl) (goW ?_);refine step_ruleDO rfl rfl (sx_ldBs (h5.ok (R.length+1) _ get2_0).2 rfl rfl) (goW ?_);by_cases z:rowE blaC s e<s.length
 ·rw[dT (show ((rowE blaC s e:Nat):Int)<(s.length:Nat) by omega)];rw[if_pos z]at hp;refine goW ?_;refine call_rule (by rfl) (hm _ _ _ _ _ (K.bad h5) ?_);intro r S6 hp6;have hp6:=PanT.less (PanP.toT hp6 k5);unfold errA errW at hp6;rw[if_pos z,if_pos z]at hp6;obtain⟨id,i',n',rfl,w1,w2⟩:=hp6;rw[hp];exact⟨_,_,_,rfl,w1,w2⟩
 ·rw[dF (show ¬((rowE blaC s e:Nat):Int)<(s.length:Nat) by omega)];rw[if_neg z]at hp;refine goW ?_;refine⟨_,rfl,?_⟩;rw[hp];exact⟨_,rfl,tv5,h5,k5⟩
theorem rec_ret {S:St}{eid:Nat}{Q:UM->St->Prop}(k:Q .ret S):wpDG gt C F87 [.ptr eid 0] .ret S Q:=by
 refine⟨rfl,?_⟩;show wpDG.go gt C F87 [.ptr eid 0] S Q .nilif .ret;unfold wpDG.go;refine goW ?_;exact k
theorem rec_pan {S:St}{R:List Rs}{eid id i:Nat}(h:Hs S R)(hi:R[i]? = some (.bx eid 32 [.nilif])){Q:UM->St->Prop}(k:∀S',Hs S' (R.set i (.bx eid 32 [.ifc 105 (.ptr id 0)]))->Kp S' S->Q .rcv S'):wpDG gt C F87 [.ptr eid 0] (.pan (.ifc 105 (.ptr id 0))) S Q:=by
 refine⟨rfl,?_⟩;show wpDG.go gt C F87 [.ptr eid 0] S Q (.ifc 105 (.ptr id 0)) .rcv;unfold wpDG.go;refine goW ?_;refine r_stB h hi rfl rfl rfl rfl rfl λS4 h4 k4=>?_;refine goW ?_;exact k S4 h4 k4
end

set_option maxHeartbeats 64000000
theorem Hs.perm {S:St}{R R':List Rs}(h:Hs S R)(p:R.Perm R'):Hs S R':=by
 have hp:R.Pairwise RsDj:=List.pairwise_iff_getElem.2 λi j hi hj hij=>h.dj i j _ _ (by omega) (gE hi) (gE hj);have hq:=(p.pairwise_iff (λh=>RsDj.symm h)).1 hp;refine⟨h.wf,λi r hi=>?_,λi j r s hij hi hj=>?_⟩
 ·obtain⟨k,hk⟩:=List.mem_iff_getElem?.1 (p.mem_iff.2 (List.mem_iff_getElem?.2 ⟨i,hi⟩));exact h.ok k r hk
 ·obtain⟨ki,rfl⟩:=List.getElem?_eq_some_iff.1 hi;obtain⟨kj,rfl⟩:=List.getElem?_eq_some_iff.1 hj;rcases Nat.lt_or_gt_of_ne hij with q | q
  ·exact List.pairwise_iff_getElem.1 hq i j ki kj q
  ·exact RsDj.symm (List.pairwise_iff_getElem.1 hq j i kj ki q)
theorem Hs.ini {S:St}{X Y:List Rs}(h:Hs S (X++Y)):Hs S X:=h.less (λx=>x) (λ_ _ _ _ e=>e) λj hj=>by rw[List.getElem?_append_left hj]
def fullP (s:List UInt8):PR:=if badI s 0<0 then parseP s else .bad (badI s 0).toNat 10
def ReaP (sid tid:Nat)(s:List UInt8)(R:List Rs)(S:St):Res->St->Prop:=λr S'=>match fullP s with
 |.ok t _ _=>∃cs,r=.ret .nilif/\TV S' t (.agg cs)/\Hs S' (R++R_pa sid tid s cs)/\Kp S' S
 |.bad a w=>∃id,r=.ret (.ifc 105 (.ptr id 0))/\Hs S' (R++[wrB id a w.toNat])/\Kp S' S
theorem perm_in {R X:List Rs}{e p:Rs}:(((R++X)++[e])++[p]).Perm (p::((R++[e])++X)):=by
 refine List.perm_append_comm.trans (List.Perm.cons p ?_);rw[aA,aA];exact List.Perm.append_left R List.perm_append_comm
theorem perm_out {R X:List Rs}{e p:Rs}:(p::((R++[e])++X)).Perm ((R++X)++[e,p]):=by
 refine perm_in.symm.trans ?_;rw[aA (R++X)];exact List.Perm.refl _
theorem get_e {a e:Rs}{R X:List Rs}:(a::((R++[e])++X))[R.length+1]? = some e:=by simp
theorem set_e {a e e':Rs}{R X:List Rs}:(a::((R++[e])++X)).set (R.length+1) e'=a::((R++[e'])++X):=by
 rw[List.set_cons_succ,aA,List.set_append_right _ _ (nR _),Nat.sub_self,aA];rfl
section
variable {gt:GT}{C:CallT}
theorem res_cell {S:St}{env:Env}{eid:Nat}{ty:TypeId}{v:AV}(he:lk env 4=some (.val (.ptr eid 0)))(hb:lk S.boxes eid=some (some (ty,[v])))(hv:mkv false [v]=some v):result gt env S [.cell 4 false 1]=some v:=by
 have hr:resV gt env S (.cell 4 false 1)=some v:=by
  have hl:loc env (.t 4)=some (.hp eid 0):=by simp only[loc,he];rfl
  simp only[resV,hl,ldL,ldC,hb];exact hv
 simp only[result,resVs,hr]
theorem read_wp (hm:MonoC C)(U:CallU){s:List UInt8}(hl:s.length<=65536){S:St}{R:List Rs}{sid tid:Nat}(h:Hs S (R++R_pa sid tid s zTc))
  (hbad:PF C 86 [.str s] (.int .i64 (badI s 0)))
  (hwr:∀{S:St} {R:List Rs} (at_ why:Nat),Hs S R->C 85 [.int .i64 at_,.int .i64 why] S λr S'=>∃id,r=.ret (.ptr id 0)/\Hs S' (R++[wrB id at_ why])/\S'.mv=S.mv/\S'.dl=S.dl)
  (hpar:∀{S:St} {R:List Rs} {pid:Nat},Hs S (plB pid s 0 0::(R++R_pa sid tid s zTc))->C 52 [.ptr pid 0,.ptr tid 0,.ptr sid 0] S (ParP pid sid tid s R S))
  (hret:∀{S:St} {eid:Nat} {Q:UM->St->Prop},Q .ret S->U 87 [.ptr eid 0] .ret S Q)
  (hpan:∀{S:St} {R:List Rs} {eid id i:Nat} {Q:UM->St->Prop},Hs S R->R[i]? = some (.bx eid 32 [.nilif])->(∀S',Hs S' (R.set i (.bx eid 32 [.ifc 105 (.ptr id 0)]))->Kp S' S->Q .rcv S')->U 87 [.ptr eid 0] (.pan (.ifc 105 (.ptr id 0))) S Q) :
  wpDD gt C U F51 [.str s,.fn 52 [] [.ptr tid 0,.ptr sid 0]] S (ReaP sid tid s R S):=by
 have hE:=h.newBox 32 [.nilif];have kE:Kp { S with nb:=S.nb+1,boxes:=(S.nb,some (32,[.nilif]))::S.boxes } S:=⟨rfl,rfl⟩
 have hf:fullP s=if badI s 0<0 then parseP s else .bad (badI s 0).toNat 10:=rfl
 unfold ReaP;generalize fullP s=res at hf ⊢;generalize badI s 0=bi at hf hbad;refine⟨rfl,?_⟩;refine goW ?_;rw[dF (show ¬(65536:Int)<s.length by omega)];refine goW ?_;refine call_pf hm (by rfl) hbad (goW ?_);by_cases c:bi<0
 case neg =>
  obtain⟨b,rfl⟩:=Int.eq_ofNat_of_zero_le (show 0<=bi by omega);rw[dT (show (b:Int) ≥ 0 by omega)];rw[if_neg c,Int.toNat_natCast]at hf;refine goW ?_;refine call_rule (by rfl) (hm _ _ _ _ _ (hwr b 10 hE) ?_);rintro r S2 ⟨id,rfl,h2,k2⟩;have k2:Kp S2 S:=Kp.trans k2 kE;refine goW ?_;have gE:(((R++R_pa sid tid s zTc)++[Rs.bx S.nb 32 [.nilif]])++[wrB id b 10])[R.length+2]? = some (Rs.bx S.nb 32 [.nilif]):=by simp
  refine r_stB h2 gE rfl rfl rfl rfl rfl λS3 h3 k3=>?_;refine goW ?_;have hres:result gt [(4,Ent.val (AV.ptr S.nb 0))] S3 (F51).res=some (.ifc 105 (.ptr id 0)):=res_cell rfl (h3.ok (R.length+2) (Rs.bx S.nb 32 [.ifc 105 (.ptr id 0)]) (by rw[List.getElem?_set_self (by simp)];rfl)).2 rfl;refine⟨_,hres,?_⟩;rw[hf];refine⟨id,rfl,?_,k3.trans k2⟩;have h4:=h3.perm (R':=(R++[wrB id b 10])++(R_pa sid tid s zTc++[Rs.bx S.nb 32 [.ifc 105 (.ptr id 0)]])) ?_
  ·exact Hs.ini h4
  ·have e1:(((R++R_pa sid tid s zTc)++[Rs.bx S.nb 32 [.nilif]])++[wrB id b 10]).set (R.length+2) (Rs.bx S.nb 32 [.ifc 105 (.ptr id 0)])=R++((R_pa sid tid s zTc++[Rs.bx S.nb 32 [.ifc 105 (.ptr id 0)]])++[wrB id b 10]):=by
    rw[aA,aA,List.set_append_right _ _ (by omega),show R.length+2-R.length=2 by omega];rfl
   refine(List.Perm.of_eq e1).trans ?_;rw[aA R];exact List.Perm.append_left R List.perm_append_comm
 rw[dF (show ¬bi ≥ 0 by omega)];rw[if_pos c]at hf;refine goW ?_;have hP:=(hE.newBox 88 [.str s,.int .i64 0,.int .i64 0]).perm perm_in;have kP:=Kp.trans (S':={ S with nb:=S.nb+1,boxes:=(S.nb,some (32,[.nilif]))::S.boxes }) (S'':={ S with nb:=S.nb+2,boxes:=(S.nb+1,some (88,[.str s,.int .i64 0,.int .i64 0]))::(S.nb,some (32,[.nilif]))::S.boxes }) ⟨rfl,rfl⟩ kE;refine call_rule (by rfl) (hm _ _ _ _ _ (hpar hP) ?_);intro r S2 hp2;unfold ParP at hp2;rw[<-hf]at hp2;cases res with
 | ok t e m =>
  obtain⟨cs,rfl,tv,h2,k2⟩:=hp2;have k2:=Kp.trans k2 kP;refine goW ?_;refine r_stB h2 get_e rfl rfl rfl rfl rfl λS3 h3 k3=>?_;rw[set_e]at h3;have tv3:=TV.kp k3 _ _ tv;have k3:=k3.trans k2;refine goW ?_;refine hret ?_;refine⟨_,res_cell rfl (h3.ok (R.length+1) _ get_e).2 rfl,?_⟩;exact⟨cs,rfl,tv3,Hs.ini (h3.perm perm_out),k3⟩
 | bad a w =>
  obtain⟨id,i',n',rfl,h2,k2⟩:=hp2;have k2:=Kp.trans k2 kP;refine goW ?_;refine hpan h2 get_e λS3 h3 k3=>?_;rw[set_e]at h3;refine⟨_,res_cell rfl (h3.ok (R.length+1) _ get_e).2 rfl,?_⟩;exact⟨id,rfl,Hs.ini (h3.perm perm_out),k3.trans k2⟩
end

set_option maxHeartbeats 64000000
def PaP (s:List UInt8)(R:List Rs)(S:St):Res->St->Prop:=λr S'=>match fullP s with
 |.ok t _ _=>∃v,r=.ret (.tup [v,.nilif])/\TV S' t v/\Hs S' R/\Kp S' S
 |.bad a w=>∃v id,r=.ret (.tup [v,.ifc 105 (.ptr id 0)])/\TV S' (.mk 0 [] [] []) v/\Hs S' (R++[wrB id a w.toNat])/\Kp S' S
section
variable {gt:GT}{C:CallT}
theorem parseT_wp (hm:MonoC C){s:List UInt8}{S:St}{R:List Rs}(h:Hs S R)
  (hrd:∀{S:St} {R:List Rs} {sid tid:Nat},Hs S (R++R_pa sid tid s zTc)->C 51 [.str s,.fn 52 [] [.ptr tid 0,.ptr sid 0]] S (ReaP sid tid s R S)) :
  wpF gt C F19 [.str s] S (PaP s R S):=by
 have h1:=(h.newBox 9 [.str s]).newBox 25 zTc;have h2:Hs { S with nb:=S.nb+2,boxes:=(S.nb+1,some (25,zTc))::(S.nb,some (9,[.str s]))::S.boxes } (R++R_pa S.nb (S.nb+1) s zTc):=by
  have:=h1;rw[aA]at this;exact this
 have hb:=(h2.ok R.length (Rs.bx S.nb 9 [.str s]) (by simp)).2;have k2:Kp { S with nb:=S.nb+2,boxes:=(S.nb+1,some (25,zTc))::(S.nb,some (9,[.str s]))::S.boxes } S:=⟨rfl,rfl⟩
 refine⟨rfl,?_⟩;refine goW ?_;refine step_ruleO (sx_ldBs hb rfl rfl) (goW ?_);refine call_rule (by rfl) (hm _ _ _ _ _ (hrd h2) ?_);intro r S3 hp3;unfold ReaP at hp3;unfold PaP;cases e:fullP s with
 | ok t j m =>
  rw[e]at hp3;obtain⟨cs,rfl,tv,h3,k3⟩:=hp3;obtain⟨o5,o6,x5,ev⟩:=tv.agg;generalize hy:strs t.keys=y5 at ev;generalize t.k=tk at ev;generalize t.s=ts at ev;simp only[AV.agg.injEq]at ev;subst ev;refine goW ?_;have hc:=(h3.ok (R.length+1) (Rs.bx (S.nb+1) 25 [.int .i64 tk,.str ts,.sl 1 o5 y5,.sl 4 o6 x5]) (by rw[List.getElem?_append_right (Nat.le_succ _)];show (R_pa _ _ _ _)[R.length+1-R.length]? = _;rw[Nat.add_sub_cancel_left];rfl)).2;refine step_ruleO (sx_ldBs hc rfl rfl) (goW ?_);exact⟨_,rfl,_,rfl,tv,Hs.ini h3,k3.trans k2⟩
 | bad a w =>
  rw[e]at hp3;obtain⟨id,rfl,h3,k3⟩:=hp3;refine goW ?_;exact⟨_,rfl,_,id,rfl,TV.leaf rfl rfl rfl,h3,k3.trans k2⟩
theorem where_wp {a:Int}:wpF gt C F75 [.agg [.int .i64 a]] St.init (Ret (.int .i64 a)):=by
 refine⟨rfl,?_⟩;refine goW ?_;exact⟨_,rfl,Ret.sta trivial⟩
def IsRef (R:List Rs)(S:St):Res->St->Prop:=λr S'=>r=.ret (.bool true)/\Hs S' R/\Kp S' S
theorem refused0_wp {S:St}{R:List Rs}(h:Hs S R){a:Int}:wpF gt C F41 [.nilif,.agg [.int .i64 a,.int .i64 0]] S (IsRef R S):=by
 refine⟨rfl,?_⟩;refine goW ?_;exact⟨_,rfl,rfl,h,Kp.refl S⟩
theorem refused1_wp (hm:MonoC C){S:St}{R:List Rs}{id k a w:Nat}(h:Hs S R)(hk:R[k]? = some (wrB id a w))(hw:w≠0)
  (hAs:∀{S:St} {id off tid:Nat} {ty:TypeId} {v:AV},lk S.boxes tid=some (some (ty,[v]))->C 74 [.ifc 105 (.ptr id off),.ifc 107 (.ptr tid 0)] S λr S'=>r=.ret (.bool true)/\S'={ S with boxes:=(tid,some (ty,[.ptr id off]))::S.boxes })
  (hIs:∀{S:St} {id off:Nat} {ty:TypeId} {cs:List AV} {n:Int},lk S.boxes id=some (some (ty,cs))->cs[off+1]? = some (.int .i64 n)->C 76 [.ifc 105 (.ptr id off),.ifc 26 (.int .i64 n)] S λr S'=>r=.ret (.bool true)/\S'=S)
  (hwh:∀a:Int,PF C 75 [.agg [.int .i64 a]] (.int .i64 a)) :
  wpF gt C F41 [.ifc 105 (.ptr id 0),.agg [.int .i64 a,.int .i64 w]] S (IsRef R S):=by
 have hN:=h.newBox 105 [.nilp];have kZ:Kp { S with nb:=S.nb+1,boxes:=(S.nb,some (105,[AV.nilp]))::S.boxes } S:=⟨rfl,rfl⟩
 have hn:=(hN.ok R.length (Rs.bx S.nb 105 [.nilp]) (by simp)).2;refine⟨rfl,?_⟩;refine goW ?_;rw[eqI_false (show ¬(w:Int)=0 by omega)];refine goW ?_;refine call_ruleD (by rfl) (hm _ _ _ _ _ (hAs hn) ?_);rintro r S2 ⟨rfl,e2⟩;have h2:=hN.boxTo (i:=R.length) (id:=S.nb) (ty:=105) (cs:=[.nilp]) (by simp) [.ptr id 0];rw[List.set_append_right _ _ (nR _),Nat.sub_self]at h2;have h2:Hs S2 (R++[Rs.bx S.nb 105 [.ptr id 0]]):=by rw[e2];exact h2
 have k2:Kp S2 S:=by rw[e2];exact⟨rfl,rfl⟩
 clear e2
 have hb:=(h2.ok R.length (Rs.bx S.nb 105 [.ptr id 0]) (by simp)).2;have hr:=(h2.ok k (wrB id a w) (by rw[List.getElem?_append_left (List.getElem?_eq_some_iff.1 hk).1];exact hk)).2;refine goW ?_;refine step_ruleDG rfl rfl rfl (sx_ldBs hb rfl rfl) (goW ?_);refine step_ruleDG rfl rfl rfl (sx_ldBs hb rfl rfl) (goW ?_);refine step_ruleDG rfl rfl rfl (sx_ldBs hr rfl rfl) (goW ?_);refine call_pfD hm (by rfl) (hwh a) (goW ?_);rw[eqI_true rfl];refine step_ruleDG rfl rfl rfl (sx_ldBs hb rfl rfl) (goW ?_);refine step_ruleDG rfl rfl rfl (sx_ldBs hr rfl rfl) (goW ?_);rw[eqI_true rfl];refine goW ?_;refine step_ruleDG rfl rfl rfl (sx_ldBs hb rfl rfl) (goW ?_);refine step_ruleDG rfl rfl rfl (sx_ldBs hr rfl rfl) (goW ?_);refine call_ruleD (by rfl) (hm _ _ _ _ _ (hIs (n:=w) hr rfl) ?_);rintro r S3 ⟨rfl,rfl⟩;refine goW ?_;exact⟨_,rfl,rfl,Hs.ini h2,k2⟩
end

set_option maxHeartbeats 64000000
section
variable {gt:GT}{C:CallT}
def utfA (s:List UInt8):Int×Int:=if badI s 0<0 then (0,0) else (badI s 0,10)
def RunesQ (s:List UInt8)(R:List Rs)(S:St):Res->St->Prop:=λr S'=>∃x,r=.ret (.tup [x,.agg [.int .i64 (utfA s).1,.int .i64 (utfA s).2]])/\Hs S' R/\Kp S' S
abbrev E_rnq (s:List UInt8)(o:SI)(xs:List AV)(i:Int):Env:=[(0,.val (.str s)),(3,.box [.int .i64 0,.int .i64 0]),(4,.val (.sl 1 o xs)),(5,.val (.int .i64 i))]
theorem runesQ_wp (hm:MonoC C){S:St}{R:List Rs}(h:Hs S R)(hone:∀(s:List UInt8) (k:Nat),k<s.length->s.length<4611686018427387904->PF C 149 [.str s,.int .i64 k] (encFirst (firstC (s.drop k)))){s:List UInt8}(hl:s.length<4294967281) :
  wpF gt C F108 [.str s] S (RunesQ s R S):=by
 have hR:=h.addNil 3 true;refine⟨rfl,?_⟩;refine goW ?_;have fin:∀{S':St} {x:AV} {o:SI} {xs:List AV} {v:Int×Int},utfA s=v->Hs S' (R++[.gr 3 o xs])->Kp S' S->RunesQ s R S (.ret (.tup [x,.agg [.int .i64 v.1,.int .i64 v.2]])) S':=λ{S' x o xs v} e h1 h2=>by
  subst e;exact⟨x,rfl,h1.less (λx=>x) (λ_ _ _ _ e=>e) (λx hx=>by rw[List.getElem?_append_left hx]),h2⟩
 refine loop_rule hm (α:=Nat) (λi env S'=>i<=s.length/\(∃o xs,Hs S' (R++[.gr 3 o xs])/\xs.length<=i/\env=E_rnq s o xs i)/\Kp S' S/\badI s 0=badI (s.drop i) i) (λi=>s.length-i) ?_ (a:=0) ⟨Nat.zero_le _,⟨_,_,hR,nR _,rfl⟩,Kp.refl S,rfl⟩;rintro i env S' ⟨hi,⟨o,xs,hR,hxl,rfl⟩,hk,hp⟩;refine goW ?_;by_cases hc:(i:Int)<(s.length:Nat)
 ·rw[dT hc];have hik:i<s.length:=by omega
  have hcall:=hone s i hik (by omega);have hne:s.drop i≠[]:=λh=>by have:=congrArg List.length h;simp at this;omega
  have hle:=firstC_le (s.drop i);rw[lD]at hle;have hbad:=badI_bad (s:=s.drop i) (a:=i) hne;have hgo:=badI_go (s:=s.drop i) (a:=i) hne;generalize firstC (s.drop i)=q at hcall hle hbad hgo;obtain⟨c,n⟩:=q;simp only at hle hbad hgo;refine goW ?_;refine call_pf hm (by rfl) hcall (goW ?_);by_cases hz:n=0
  ·rw[eqI_true (show (n:Int)=0 by omega)];refine goW ?_;exact⟨_,rfl,fin (v:=((i:Int),10)) (by unfold utfA;rw[hp,hbad hz,if_neg (by omega)]) hR hk⟩
  rw[eqI_false (show ¬(n:Int)=0 by omega)];refine goW ?_;obtain⟨hR,hsrc⟩:=hR.bldT 3 1;refine r_appK hR R.length (by simp) trivial rfl rfl (hsrc _ _ _) (by simp;omega) (by simp;omega) (by decide) (by decide) rfl ?_;intro o3 S3 hR hk3;have hk3:Kp S3 S:=Kp.trans hk3 hk;refine goW ?_;refine⟨i+n,⟨by omega,⟨_,_,(by simpa using hR),by simp;omega,?_⟩,hk3,by rw[hp,hgo hz,List.drop_drop]⟩,by omega⟩;simp only[E_rnq];rw[wr64 (by omega) (by omega),show (i:Int)+(n:Int)=((i+n:Nat):Int) by omega]
  try rfl
 ·rw[dF hc];refine goW ?_;exact⟨_,rfl,fin (v:=(0,0)) (by unfold utfA;rw[hp,List.drop_eq_nil_of_le (by omega),badI_nil];rfl) hR hk⟩
end

set_option maxHeartbeats 64000000
abbrev rdB (rid:Nat)(s:List UInt8)(i:Nat)(a w:Int)(n:Nat):Rs:=.bx rid 103 [.str s,.int .i64 i,.int .i64 a,.int .i64 w,.int .i64 n,.bool true]
def faiA (s:List UInt8)(w:Int)(i:Nat):Int:=if w=13/\s.length<=i then (s.length:Nat) else i
def faiW (s:List UInt8)(w:Int)(i:Nat):Int:=if w=13/\s.length<=i then 14 else w
section
variable {gt:GT}{C:CallT}
section
variable {d:Option Nat}{env:Env}{S:St}{R:List Rs}{rid i n:Nat}{a w:Int}{s:List UInt8}{x:DOpd}
theorem sx_r0 (h:Hs S (rdB rid s i a w n::R))(hx:loc env x=some (.hp rid 0)):stepO gt d env S (.ld false 1 x)=.done (putV d (.str s) env) S:=sx_ldBs (h.ok 0 _ rfl).2 hx rfl
theorem sx_r1 (h:Hs S (rdB rid s i a w n::R))(hx:loc env x=some (.hp rid 1)):stepO gt d env S (.ld false 1 x)=.done (putV d (.int .i64 i) env) S:=sx_ldBs (h.ok 0 _ rfl).2 hx rfl
theorem sx_r3 (h:Hs S (rdB rid s i a w n::R))(hx:loc env x=some (.hp rid 3)):stepO gt d env S (.ld false 1 x)=.done (putV d (.int .i64 w) env) S:=sx_ldBs (h.ok 0 _ rfl).2 hx rfl
theorem sx_r4 (h:Hs S (rdB rid s i a w n::R))(hx:loc env x=some (.hp rid 4)):stepO gt d env S (.ld false 1 x)=.done (putV d (.int .i64 n) env) S:=sx_ldBs (h.ok 0 _ rfl).2 hx rfl
theorem sx_r5 (h:Hs S (rdB rid s i a w n::R))(hx:loc env x=some (.hp rid 5)):stepO gt d env S (.ld false 1 x)=.done (putV d (.bool true) env) S:=sx_ldBs (h.ok 0 _ rfl).2 hx rfl
theorem r_r1 {K:Env->St->Prop}{Q:Ex->Env->St->Prop}{y:DOpd}{j:Nat}(h:Hs S (rdB rid s i a w n::R))(hx:loc env x=some (.hp rid 1))(hy:opd env y=some (.int .i64 j))
  (k:∀S',Hs S' (rdB rid s j a w n::R)->Kp S' S->K (putV d .undef env) S'):afterS C d env S K Q (stepI gt ⟨d,.st 1 x y,none⟩ env S):=r_stB (i:=0) h rfl hx hy rfl rfl rfl k
theorem r_r4 {K:Env->St->Prop}{Q:Ex->Env->St->Prop}{y:DOpd}{j:Nat}(h:Hs S (rdB rid s i a w n::R))(hx:loc env x=some (.hp rid 4))(hy:opd env y=some (.int .i64 j))
  (k:∀S',Hs S' (rdB rid s i a w j::R)->Kp S' S->K (putV d .undef env) S'):afterS C d env S K Q (stepI gt ⟨d,.st 1 x y,none⟩ env S):=r_stB (i:=0) h rfl hx hy rfl rfl rfl k
theorem r_r2 {K:Env->St->Prop}{Q:Ex->Env->St->Prop}{y:DOpd}{b u:Int}(h:Hs S (rdB rid s i a w n::R))(hx:loc env x=some (.hp rid 2))(hy:opd env y=some (.agg [.int .i64 b,.int .i64 u]))
  (k:∀S',Hs S' (rdB rid s i b u n::R)->Kp S' S->K (putV d .undef env) S'):afterS C d env S K Q (stepI gt ⟨d,.st 2 x y,none⟩ env S):=r_stB (i:=0) h rfl hx hy rfl rfl rfl k
end
theorem rOK_wp {S:St}{R:List Rs}{rid i n:Nat}{a w:Int}{s:List UInt8}(h:Hs S (rdB rid s i a w n::R)):wpF gt C F72 [.ptr rid 0] S λr S'=>r=.ret (.bool (w == 0))/\S'=S:=by
 refine⟨rfl,?_⟩;refine goW ?_;refine step_ruleO (sx_r3 h rfl) (goW ?_);exact⟨_,rfl,rfl,rfl⟩
theorem rFailX_wp {S:St}{R:List Rs}{rid i n:Nat}{a w why at_:Int}{s:List UInt8}(h:Hs S (rdB rid s i a w n::R))(hw:w≠0):wpF gt C F73 [.ptr rid 0,.int .i64 why,.int .i64 at_] S λr S'=>r=.ret (.tup [])/\S'=S:=by
 refine⟨rfl,?_⟩;refine goW ?_;refine step_ruleO (sx_r3 h rfl) (goW ?_);rw[neI_true hw];refine goW ?_;exact⟨_,rfl,rfl,rfl⟩
theorem rFail0_wp {S:St}{R:List Rs}{rid i n at_:Nat}{a why:Int}{s:List UInt8}(h:Hs S (rdB rid s i a 0 n::R)):wpF gt C F73 [.ptr rid 0,.int .i64 why,.int .i64 at_] S λr S'=>r=.ret (.tup [])/\Hs S' (rdB rid s i (faiA s why at_) (faiW s why at_) n::R)/\Kp S' S:=by
 refine⟨rfl,?_⟩;refine goW ?_;refine step_ruleO (sx_r3 h rfl) (goW ?_);by_cases c:why=13
 case neg =>
  rw[eqI_false c];refine goW ?_;refine r_r2 (b:=at_) (u:=why) h rfl rfl λS2 h2 k2=>?_;refine goW ?_;refine⟨_,rfl,rfl,?_,k2⟩;unfold faiA faiW;rw[if_neg (λh=>c h.1),if_neg (λh=>c h.1)];exact h2
 rw[eqI_true c];refine goW ?_;refine step_ruleG rfl (sx_r0 h rfl) (goW ?_);by_cases c2:s.length<=at_
 case neg =>
  rw[dF (show ¬(at_:Int) ≥ s.length by omega)];refine goW ?_;refine r_r2 (b:=at_) (u:=why) h rfl rfl λS2 h2 k2=>?_;refine goW ?_;refine⟨_,rfl,rfl,?_,k2⟩;unfold faiA faiW;rw[if_neg (λh=>c2 h.2),if_neg (λh=>c2 h.2)];exact h2
 rw[dT (show (at_:Int) ≥ s.length by omega)];refine goW ?_;refine step_ruleO (sx_r0 h rfl) (goW ?_);refine r_r2 (b:=(s.length:Nat)) (u:=14) h rfl rfl λS2 h2 k2=>?_;refine goW ?_;refine⟨_,rfl,rfl,?_,k2⟩;unfold faiA faiW;rw[if_pos ⟨c,c2⟩,if_pos ⟨c,c2⟩];exact h2
theorem rIs_wp (hm:MonoC C){S:St}{R:List Rs}{rid i n c:Nat}{a w:Int}{s:List UInt8}(h:Hs S (rdB rid s i a w n::R))
  (hok:∀{S:St} {R:List Rs} {i n:Nat} {a w:Int},Hs S (rdB rid s i a w n::R)->C 72 [.ptr rid 0] S λr S'=>r=.ret (.bool (w == 0))/\S'=S) :
  wpF gt C F156 [.ptr rid 0,.int .u8 c] S λr S'=>r=.ret (.bool ((w == 0) && isC s i c))/\S'=S:=by
 refine⟨rfl,?_⟩;refine goW ?_;refine call_ruleD (by rfl) (hm _ _ _ _ _ (hok h) ?_);rintro r S2 ⟨rfl,rfl⟩;cases w == 0 with
 | false =>
  refine goW ?_;exact⟨_,rfl,rfl,rfl⟩
 | true =>
 refine goW ?_;refine step_ruleDG rfl rfl rfl (sx_r1 h rfl) (goW ?_);refine step_ruleDG rfl rfl rfl (sx_r0 h rfl) (goW ?_);by_cases hi:i<s.length
 case neg =>
  rw[dF (show ¬(i:Int)<s.length by omega)];refine goW ?_;refine⟨_,rfl,?_⟩;have:isC s i c=false:=by unfold isC;rw[List.getElem?_eq_none (by omega)]
  rw[this];exact⟨rfl,rfl⟩
 rw[dT (show (i:Int)<s.length by omega)];refine goW ?_;refine step_ruleDG rfl rfl rfl (sx_r0 h rfl) (goW ?_);refine step_ruleDG rfl rfl rfl (sx_r1 h rfl) (goW ?_);refine step_ruleDG rfl rfl rfl (sx_ixS (k:=i) rfl rfl (gE hi)) (goW ?_);refine⟨_,rfl,?_⟩;have e:isC s i c=(((s[i].toNat:Nat):Int) == (c:Int)):=by
  unfold isC;rw[gE hi];exact beq_dec _ _
 rw[e];exact⟨rfl,rfl⟩
def TakP (rid:Nat)(s:List UInt8)(i n c:Nat)(a w:Int)(R:List Rs)(S:St):Res->St->Prop:=λr S'=>r=.ret (.tup [])/\Kp S' S/\(if w=0 then (if isC s i c=true then Hs S' (rdB rid s (i+1) a w n::R) else Hs S' (rdB rid s i (errA s i) (errW s i) n::R)) else Hs S' (rdB rid s i a w n::R))
theorem fai13 (s:List UInt8){i:Nat}(hi:i<=s.length):faiA s 13 i=errA s i/\faiW s 13 i=errW s i:=by
 unfold faiA faiW errA errW;by_cases c:i<s.length
 ·rw[if_pos c,if_pos c,if_neg (by omega),if_neg (by omega)];exact⟨rfl,rfl⟩
 ·rw[if_neg c,if_neg c,if_pos ⟨rfl,by omega⟩,if_pos ⟨rfl,by omega⟩];exact⟨rfl,rfl⟩
theorem rTake_wp (hm:MonoC C){S:St}{R:List Rs}{rid i n c:Nat}{a w:Int}{s:List UInt8}(h:Hs S (rdB rid s i a w n::R))(hi:i<=s.length)(hl:s.length<=16777216)
  (his:∀{S:St} {R:List Rs} {i n:Nat} {a w:Int} (c:Nat),Hs S (rdB rid s i a w n::R)->C 156 [.ptr rid 0,.int .u8 c] S λr S'=>r=.ret (.bool ((w == 0) && isC s i c))/\S'=S)
  (hf0:∀{S:St} {R:List Rs} {i n:Nat} {a:Int} (at_:Nat) (why:Int),Hs S (rdB rid s i a 0 n::R)->C 73 [.ptr rid 0,.int .i64 why,.int .i64 at_] S λr S'=>r=.ret (.tup [])/\Hs S' (rdB rid s i (faiA s why at_) (faiW s why at_) n::R)/\Kp S' S)
  (hfx:∀{S:St} {R:List Rs} {i n:Nat} {a w:Int} (at_ why:Int),Hs S (rdB rid s i a w n::R)->w≠0->C 73 [.ptr rid 0,.int .i64 why,.int .i64 at_] S λr S'=>r=.ret (.tup [])/\S'=S) :
  wpF gt C F155 [.ptr rid 0,.int .u8 c] S (TakP rid s i n c a w R S):=by
 unfold TakP;refine⟨rfl,?_⟩;refine goW ?_;refine call_rule (by rfl) (hm _ _ _ _ _ (his c h) ?_);rintro r S2 ⟨rfl,rfl⟩;by_cases z:w=0
 case neg =>
  rw[eqI_false z];simp only[Bool.false_and];refine goW ?_;refine step_ruleO (sx_r1 h rfl) (goW ?_);refine call_rule (by rfl) (hm _ _ _ _ _ (hfx _ _ h z) ?_);rintro r S2 ⟨rfl,rfl⟩;refine goW ?_;refine⟨_,rfl,rfl,Kp.refl _,?_⟩;rw[if_neg z];exact h
 subst z;simp only[beq_self_eq_true,Bool.true_and,if_true];cases q:isC s i c with
 | false =>
  refine goW ?_;refine step_ruleO (sx_r1 h rfl) (goW ?_);refine call_rule (by rfl) (hm _ _ _ _ _ (hf0 i 13 h) ?_);rintro r S2 ⟨rfl,h2,k2⟩;rw[(fai13 s hi).1,(fai13 s hi).2]at h2;refine goW ?_;exact⟨_,rfl,rfl,k2,h2⟩
 | true =>
  have:=isC_lt q;refine goW ?_;refine step_ruleO (sx_r1 h rfl) (goW ?_);rw[wr64 (by omega) (by omega),show (i:Int)+1=((i+1:Nat):Int) by omega];refine r_r1 h rfl rfl λS3 h3 k3=>?_;refine goW ?_;exact⟨_,rfl,rfl,k3,h3⟩
end

set_option maxHeartbeats 64000000
section
variable {gt:GT}{C:CallT}
theorem rBlanks_wp (hm:MonoC C){S:St}{R:List Rs}{rid i n:Nat}{a w:Int}{s:List UInt8}(h:Hs S (rdB rid s i a w n::R))(hi:i<=s.length)(hl:s.length<=16777216) :
  wpF gt C F70 [.ptr rid 0] S λr S'=>r=.ret (.tup [])/\Hs S' (rdB rid s (rowE blaC s i) a w n::R)/\Kp S' S:=by
 refine⟨rfl,?_⟩;refine goW ?_;refine loop_rule hm (α:=Nat) (λj env S'=>Hs S' (rdB rid s j a w n::R)/\Kp S' S/\i<=j/\j<=s.length/\rowE blaC s j=rowE blaC s i/\env=[(0,.val (.ptr rid 0))]) (λj=>s.length-j) ?_ (a:=i) ⟨h,Kp.refl S,nR i,hi,rfl,rfl⟩;rintro j env S1 ⟨h1,k1,hij,hj,he,rfl⟩;have post:∀{S2:St},Hs S2 (rdB rid s j a w n::R)->Kp S2 S->rowE blaC s j=j->Res.ret (.tup [])=Res.ret (.tup [])/\Hs S2 (rdB rid s (rowE blaC s i) a w n::R)/\Kp S2 S:=λh2 k2 e2=>by
  have e3:rowE blaC s i=j:=by rw[<-he,e2]
  rw[e3];exact⟨rfl,h2,k2⟩
 refine goW ?_;refine step_ruleDO rfl rfl (sx_r1 h1 rfl) (goW ?_);refine step_ruleDO rfl rfl (sx_r0 h1 rfl) (goW ?_);by_cases c:j<s.length
 case neg =>
  rw[dF (show ¬(j:Int)<s.length by omega)];refine goW ?_;exact⟨_,rfl,post h1 k1 (rowE_end (by omega))⟩
 rw[dT (show (j:Int)<s.length by omega)];have hb:s[j]? = some s[j]:=gE c;generalize s[j]=b at hb;refine goW ?_;have q9:((b.toNat:Int) == 9)=Nat.beq b.toNat 9:=(beq_dec b.toNat 9).symm;cases c9:Nat.beq b.toNat 9 with
 | true =>
  rw[c9]at q9;refine step_ruleDG rfl rfl rfl (sx_r0 h1 rfl) (goW ?_);refine step_ruleDG rfl rfl rfl (sx_r1 h1 rfl) (goW ?_);refine step_ruleDG rfl rfl rfl (sx_ixS (k:=j) rfl rfl hb) ?_;refine⟨rfl,?_⟩;refine step_ruleDG rfl rfl rfl (sx_eqU rfl rfl q9) (goW ?_);refine step_ruleO (sx_r1 h1 rfl) (goW ?_);rw[wr64 (by omega) (by omega),show (j:Int)+1=((j+1:Nat):Int) by omega];refine r_r1 h1 rfl rfl λS3 h3 k3=>?_;refine goW ?_;exact⟨j+1,⟨h3,k3.trans k1,by omega,by omega,by rw[<-he,rowE_in hb (by unfold blaC;simp only[c9,Bool.false_or,Bool.true_or,Bool.or_true])],rfl⟩,by omega⟩
 | false =>
  rw[c9]at q9;refine step_ruleDG rfl rfl rfl (sx_r0 h1 rfl) (goW ?_);refine step_ruleDG rfl rfl rfl (sx_r1 h1 rfl) (goW ?_);refine step_ruleDG rfl rfl rfl (sx_ixS (k:=j) rfl rfl hb) ?_;refine⟨rfl,?_⟩;refine step_ruleDG rfl rfl rfl (sx_eqU rfl rfl q9) (goW ?_);have q10:((b.toNat:Int) == 10)=Nat.beq b.toNat 10:=(beq_dec b.toNat 10).symm;cases c10:Nat.beq b.toNat 10 with
  | true =>
   rw[c10]at q10;refine step_ruleDG rfl rfl rfl (sx_r0 h1 rfl) (goW ?_);refine step_ruleDG rfl rfl rfl (sx_r1 h1 rfl) (goW ?_);refine step_ruleDG rfl rfl rfl (sx_ixS (k:=j) rfl rfl hb) ?_;refine⟨rfl,?_⟩;refine step_ruleDG rfl rfl rfl (sx_eqU rfl rfl q10) (goW ?_);refine step_ruleO (sx_r1 h1 rfl) (goW ?_);rw[wr64 (by omega) (by omega),show (j:Int)+1=((j+1:Nat):Int) by omega];refine r_r1 h1 rfl rfl λS3 h3 k3=>?_;refine goW ?_;exact⟨j+1,⟨h3,k3.trans k1,by omega,by omega,by rw[<-he,rowE_in hb (by unfold blaC;simp only[c9,c10,Bool.false_or,Bool.true_or,Bool.or_true])],rfl⟩,by omega⟩
  | false =>
   rw[c10]at q10;refine step_ruleDG rfl rfl rfl (sx_r0 h1 rfl) (goW ?_);refine step_ruleDG rfl rfl rfl (sx_r1 h1 rfl) (goW ?_);refine step_ruleDG rfl rfl rfl (sx_ixS (k:=j) rfl rfl hb) ?_;refine⟨rfl,?_⟩;refine step_ruleDG rfl rfl rfl (sx_eqU rfl rfl q10) (goW ?_);have q13:((b.toNat:Int) == 13)=Nat.beq b.toNat 13:=(beq_dec b.toNat 13).symm;cases c13:Nat.beq b.toNat 13 with
   | true =>
    rw[c13]at q13;refine step_ruleDG rfl rfl rfl (sx_r0 h1 rfl) (goW ?_);refine step_ruleDG rfl rfl rfl (sx_r1 h1 rfl) (goW ?_);refine step_ruleDG rfl rfl rfl (sx_ixS (k:=j) rfl rfl hb) ?_;refine⟨rfl,?_⟩;refine step_ruleDG rfl rfl rfl (sx_eqU rfl rfl q13) (goW ?_);refine step_ruleO (sx_r1 h1 rfl) (goW ?_);rw[wr64 (by omega) (by omega),show (j:Int)+1=((j+1:Nat):Int) by omega];refine r_r1 h1 rfl rfl λS3 h3 k3=>?_;refine goW ?_;exact⟨j+1,⟨h3,k3.trans k1,by omega,by omega,by rw[<-he,rowE_in hb (by unfold blaC;simp only[c9,c10,c13,Bool.false_or,Bool.true_or,Bool.or_true])],rfl⟩,by omega⟩
   | false =>
    rw[c13]at q13;refine step_ruleDG rfl rfl rfl (sx_r0 h1 rfl) (goW ?_);refine step_ruleDG rfl rfl rfl (sx_r1 h1 rfl) (goW ?_);refine step_ruleDG rfl rfl rfl (sx_ixS (k:=j) rfl rfl hb) ?_;refine⟨rfl,?_⟩;refine step_ruleDG rfl rfl rfl (sx_eqU rfl rfl q13) (goW ?_);have q32:((b.toNat:Int) == 32)=Nat.beq b.toNat 32:=(beq_dec b.toNat 32).symm;cases c32:Nat.beq b.toNat 32 with
    | true =>
     rw[c32]at q32;refine step_ruleDG rfl rfl rfl (sx_r0 h1 rfl) (goW ?_);refine step_ruleDG rfl rfl rfl (sx_r1 h1 rfl) (goW ?_);refine step_ruleDG rfl rfl rfl (sx_ixS (k:=j) rfl rfl hb) ?_;refine⟨rfl,?_⟩;refine step_ruleDG rfl rfl rfl (sx_eqU rfl rfl q32) (goW ?_);refine step_ruleO (sx_r1 h1 rfl) (goW ?_);rw[wr64 (by omega) (by omega),show (j:Int)+1=((j+1:Nat):Int) by omega];refine r_r1 h1 rfl rfl λS3 h3 k3=>?_;refine goW ?_;exact⟨j+1,⟨h3,k3.trans k1,by omega,by omega,by rw[<-he,rowE_in hb (by unfold blaC;simp only[c9,c10,c13,c32,Bool.false_or,Bool.true_or,Bool.or_true])],rfl⟩,by omega⟩
    | false =>
     rw[c32]at q32;refine step_ruleDG rfl rfl rfl (sx_r0 h1 rfl) (goW ?_);refine step_ruleDG rfl rfl rfl (sx_r1 h1 rfl) (goW ?_);refine step_ruleDG rfl rfl rfl (sx_ixS (k:=j) rfl rfl hb) ?_;refine⟨rfl,?_⟩;refine step_ruleDG rfl rfl rfl (sx_eqU rfl rfl q32) (goW ?_);exact⟨_,rfl,post h1 k1 (rowE_out hb (by unfold blaC;simp only[c9,c10,c13,c32,Bool.false_or]))⟩
end

set_option maxHeartbeats 64000000
section
variable {gt:GT}{C:CallT}
theorem digX_wp {b:UInt8}:wpF gt C F152 [.int .u8 b.toNat] St.init (Ret (.bool (digC b))):=by
 refine⟨rfl,?_⟩;rw[show digC b=(decide ((48:Int)<=b.toNat) && decide ((b.toNat:Int)<=57)) by unfold digC;rw[ble_dec,ble_dec];rfl];refine goW ?_;by_cases c:(48:Int)<=b.toNat
 ·rw[dT c];refine goW ?_;refine⟨_,rfl,?_⟩;simp only[Bool.true_and,Bool.false_and,Bool.true_or,Bool.false_or];exact Ret.sta trivial
 ·rw[dF c];refine goW ?_;refine⟨_,rfl,?_⟩;simp only[Bool.true_and,Bool.false_and,Bool.true_or,Bool.false_or];exact Ret.sta trivial
theorem letX_wp {b:UInt8}:wpF gt C F117 [.int .u8 b.toNat] St.init (Ret (.bool (letC b))):=by
 refine⟨rfl,?_⟩;rw[show letC b=(decide ((97:Int)<=b.toNat) && decide ((b.toNat:Int)<=122) || decide ((65:Int)<=b.toNat) && decide ((b.toNat:Int)<=90)) by unfold letC;rw[ble_dec,ble_dec,ble_dec,ble_dec];rfl];refine goW ?_;by_cases c:(97:Int)<=b.toNat
 ·rw[dT c];refine goW ?_;by_cases c2:(b.toNat:Int)<=122
  ·rw[dT c2];refine goW ?_;refine⟨_,rfl,?_⟩;simp only[Bool.true_and,Bool.false_and,Bool.true_or,Bool.false_or];exact Ret.sta trivial
  ·rw[dF c2];refine goW ?_;by_cases c3:(65:Int)<=b.toNat
   ·rw[dT c3];refine goW ?_;refine⟨_,rfl,?_⟩;simp only[Bool.true_and,Bool.false_and,Bool.true_or,Bool.false_or];exact Ret.sta trivial
   ·rw[dF c3];refine goW ?_;refine⟨_,rfl,?_⟩;simp only[Bool.true_and,Bool.false_and,Bool.true_or,Bool.false_or];exact Ret.sta trivial
 ·rw[dF c];refine goW ?_;by_cases c3:(65:Int)<=b.toNat
  ·rw[dT c3];refine goW ?_;refine⟨_,rfl,?_⟩;simp only[Bool.true_and,Bool.false_and,Bool.true_or,Bool.false_or];exact Ret.sta trivial
  ·rw[dF c3];refine goW ?_;refine⟨_,rfl,?_⟩;simp only[Bool.true_and,Bool.false_and,Bool.true_or,Bool.false_or];exact Ret.sta trivial
theorem rRow_wp (hm:MonoC C){S:St}{R:List Rs}{rid i n at_:Nat}{a w:Int}{s more:List UInt8}{p:UInt8->Bool}(h:Hs S (rdB rid s i a w n::R))(hi:at_<=s.length)(hl:s.length<=16777216)(hml:more.length<=100)
  (hp:∀b:UInt8,p b=((letC b || digC b) || more.any λc=>Nat.beq b.toNat c.toNat))
  (hle:∀b:UInt8,PF C 117 [.int .u8 b.toNat] (.bool (letC b))) (hd:∀b:UInt8,PF C 152 [.int .u8 b.toNat] (.bool (digC b))) :
  wpF gt C F153 [.ptr rid 0,.int .i64 at_,.str more] S λr S'=>r=.ret (.int .i64 (rowE p s at_:Nat))/\S'=S:=by
 refine⟨rfl,?_⟩;refine goW ?_;refine loop_rule hm (α:=Nat) (λj env S'=>S'=S/\at_<=j/\j<=s.length/\rowE p s j=rowE p s at_/\env=[(0,.val (.ptr rid 0)),(1,.val (.int .i64 j)),(2,.val (.str more))]) (λj=>s.length-j) ?_ (a:=at_) ⟨rfl,nR _,hi,rfl,rfl⟩;rintro j env S1 ⟨rfl,hij,hj,he,rfl⟩;have post:∀{S2:St},rowE p s j=j->Res.ret (.int .i64 (j:Nat))=Res.ret (.int .i64 (rowE p s at_:Nat))/\S2=S2:=λe2=>by
  have e3:rowE p s at_=j:=by rw[<-he,e2]
  rw[e3];exact⟨rfl,rfl⟩
 refine goW ?_;refine step_ruleO (sx_r0 h rfl) (goW ?_);by_cases c:j<s.length
 case neg =>
  rw[dF (show ¬(j:Int)<s.length by omega)];refine goW ?_;exact⟨_,rfl,post (rowE_end (by omega))⟩
 rw[dT (show (j:Int)<s.length by omega)];have hb:s[j]? = some s[j]:=gE c;generalize s[j]=b at hb;have hpb:=hp b;refine goW ?_;refine step_ruleO (sx_r0 h rfl) (goW ?_);refine step_ruleO (sx_ixS (k:=j) rfl rfl hb) (goW ?_);refine call_pf hm (by rfl) (hle b) ?_;cases cl:letC b with
 | true =>
  refine goW ?_;refine loop_rule hm (α:=Nat) (λk env S'=>k<=more.length/\S'=S1/\∃v:Bool,p b=(v || (more.drop k).any λc=>Nat.beq b.toNat c.toNat)/\env=[(0,.val (.ptr rid 0)),(1,.val (.int .i64 j)),(2,.val (.str more)),(7,.val (.bool v)),(8,.val (.int .i64 k))]) (λk=>more.length-k) ?_ (a:=0) ⟨Nat.zero_le _,rfl,_,(by rw[hpb,cl];rfl),rfl⟩;rintro k env S3 ⟨hk,rfl,v,hv,rfl⟩;refine goW ?_;by_cases ck:k<more.length
  case neg =>
   rw[dF (show ¬(k:Int)<more.length by omega)];rw[List.drop_eq_nil_of_le (by omega),List.any_nil,Bool.or_false]at hv;cases v with
   | true =>
    refine goW ?_;rw[wr64 (by omega) (by omega),show (j:Int)+1=((j+1:Nat):Int) by omega];exact⟨j+1,⟨rfl,by omega,by omega,by rw[<-he,rowE_in hb hv],rfl⟩,by omega⟩
   | false =>
    refine goW ?_;exact⟨_,rfl,post (rowE_out hb hv)⟩
  rw[dT (show (k:Int)<more.length by omega)];cases v with
  | true =>
   rw[Bool.true_or]at hv;refine goW ?_;rw[wr64 (by omega) (by omega),show (j:Int)+1=((j+1:Nat):Int) by omega];exact⟨j+1,⟨rfl,by omega,by omega,by rw[<-he,rowE_in hb hv],rfl⟩,by omega⟩
  | false =>
   rw[dC ck,List.any_cons,Bool.false_or]at hv;refine goW ?_;refine step_ruleDO rfl rfl (sx_r0 h rfl) (goW ?_);refine step_ruleDO rfl rfl (sx_ixS (k:=j) rfl rfl hb) (goW ?_);refine step_ruleDO rfl rfl (sx_ixS (k:=k) rfl rfl (gE ck)) (goW ?_);rw[wr64 (by omega) (by omega),show (k:Int)+1=((k+1:Nat):Int) by omega];exact⟨k+1,⟨by omega,rfl,_,by rw[hv,beq_dec],rfl⟩,by omega⟩
 | false =>
  refine goW ?_;refine step_ruleG rfl (sx_r0 h rfl) (goW ?_);refine step_ruleG rfl (sx_ixS (k:=j) rfl rfl hb) (goW ?_);refine call_pf hm (by rfl) (hd b) (goW ?_);refine loop_rule hm (α:=Nat) (λk env S'=>k<=more.length/\S'=S1/\∃v:Bool,p b=(v || (more.drop k).any λc=>Nat.beq b.toNat c.toNat)/\env=[(0,.val (.ptr rid 0)),(1,.val (.int .i64 j)),(2,.val (.str more)),(7,.val (.bool v)),(8,.val (.int .i64 k))]) (λk=>more.length-k) ?_ (a:=0) ⟨Nat.zero_le _,rfl,_,(by rw[hpb,cl];rfl),rfl⟩;rintro k env S3 ⟨hk,rfl,v,hv,rfl⟩;refine goW ?_;by_cases ck:k<more.length
  case neg =>
   rw[dF (show ¬(k:Int)<more.length by omega)];rw[List.drop_eq_nil_of_le (by omega),List.any_nil,Bool.or_false]at hv;cases v with
   | true =>
    refine goW ?_;rw[wr64 (by omega) (by omega),show (j:Int)+1=((j+1:Nat):Int) by omega];exact⟨j+1,⟨rfl,by omega,by omega,by rw[<-he,rowE_in hb hv],rfl⟩,by omega⟩
   | false =>
    refine goW ?_;exact⟨_,rfl,post (rowE_out hb hv)⟩
  rw[dT (show (k:Int)<more.length by omega)];cases v with
  | true =>
   rw[Bool.true_or]at hv;refine goW ?_;rw[wr64 (by omega) (by omega),show (j:Int)+1=((j+1:Nat):Int) by omega];exact⟨j+1,⟨rfl,by omega,by omega,by rw[<-he,rowE_in hb hv],rfl⟩,by omega⟩
  | false =>
   rw[dC ck,List.any_cons,Bool.false_or]at hv;refine goW ?_;refine step_ruleDO rfl rfl (sx_r0 h rfl) (goW ?_);refine step_ruleDO rfl rfl (sx_ixS (k:=j) rfl rfl hb) (goW ?_);refine step_ruleDO rfl rfl (sx_ixS (k:=k) rfl rfl (gE ck)) (goW ?_);rw[wr64 (by omega) (by omega),show (k:Int)+1=((k+1:Nat):Int) by omega];exact⟨k+1,⟨by omega,rfl,_,by rw[hv,beq_dec],rfl⟩,by omega⟩
end

set_option maxHeartbeats 64000000
def begC (b:UInt8):Bool:=letC b || digC b || Nat.beq b.toNat 45 || Nat.beq b.toNat 34 || Nat.beq b.toNat 91 || Nat.beq b.toNat 123 || Nat.beq b.toNat 64
def begB (s:List UInt8)(i:Nat):Bool:=match s[i]? with | some b=>begC b | none=>false
def plR (s:List UInt8)(i:Nat)(c:UInt8):ScR :=
 if letC c=true then (if midP s i (rowE letC s i)=w4null then .ok 1 [] (rowE letC s i) else .ok 2 (midP s i (rowE letC s i)) (rowE letC s i))
 else if (digC c || Nat.beq c.toNat 45)=true then (if (normB (midP s i (rowE numC s i))).2=0 then .ok 3 (normB (midP s i (rowE numC s i))).1 (rowE numC s i) else .bad i (normB (midP s i (rowE numC s i))).2.toNat)
 else if Nat.beq c.toNat 64=true then (if timeB (midP s (i+1) (rowE timC s (i+1)))=true then .ok 5 (midP s (i+1) (rowE timC s (i+1))) (rowE timC s (i+1)) else .bad i 20)
 else .ok 0 [] i
def PlaP (rid:Nat)(s:List UInt8)(i n:Nat)(R:List Rs)(S:St)(x:ScR):Res->St->Prop:=λr S'=>match x with
 |.ok k t e=>∃v,r=.ret v/\TV S' (.mk k t [] []) v/\Hs S' (rdB rid s e 0 0 n::R)/\Kp S' S
 |.bad b w=>∃v,r=.ret v/\TV S' (.mk 0 [] [] []) v/\Hs S' (rdB rid s i b w n::R)/\Kp S' S
def QuoP (rid:Nat)(s:List UInt8)(i n:Nat)(R:List Rs)(S:St):Res->St->Prop:=λr S'=>match quoB (s.drop i) with
 |.ok t k=>r=.ret (.str t)/\Hs S' (rdB rid s (i+k) 0 0 n::R)/\Kp S' S
 |.bad a w=>r=.ret (.str [])/\Hs S' (rdB rid s i ((i+a:Nat):Int) w n::R)/\Kp S' S
section
variable {gt:GT}{C:CallT}
theorem rQuo_wp (hm:MonoC C){S:St}{R:List Rs}{rid i n:Nat}{s:List UInt8}(h:Hs S (rdB rid s i 0 0 n::R))(hi:isC s i 34=true)(hl:s.length<=16777216)
  (hwi:∀p:Nat,p<s.length->PF C 154 [.str s,.int .i64 p] (encW (quoL (s.drop (p+1)) (p+1) []))) :
  wpF gt C F119 [.ptr rid 0] S (QuoP rid s i n R S):=by
 obtain⟨c,hc,hc2⟩:=isC_some hi;have hw:=hwi i (isC_lt hi);rw[<-quoB_at hc hc2]at hw;have hq:=(quoOK s).2 i;unfold QuoP;generalize quoB (s.drop i)=q at hw hq ⊢;refine⟨rfl,?_⟩;refine goW ?_;refine step_ruleDO rfl rfl (sx_r0 h rfl) (goW ?_);refine step_ruleDO rfl rfl (sx_r1 h rfl) (goW ?_);refine call_pfD hm (by rfl) hw ?_;cases q with
 | ok t k =>
  refine goW ?_;refine r_r1 (j:=i+k) h rfl (by show some (AV.int .i64 ((k+i:Nat):Int))=_;rw[Nat.add_comm]) λS2 h2 k2=>?_;refine goW ?_;exact⟨_,rfl,rfl,h2,k2⟩
 | bad b w =>
  have:=hq b w (by have:=isC_lt hi;omega) rfl;refine goW ?_;rw[neI_true (show ¬(w:Int)=0 by omega)];refine goW ?_;refine step_ruleO (sx_r3 h rfl) (goW ?_);refine r_r2 (b:=((i+b:Nat):Int)) (u:=w) h rfl (by show some (AV.agg [AV.int .i64 ((b+i:Nat):Int),AV.int .i64 (w:Int)])=_;rw[Nat.add_comm]) λS2 h2 k2=>?_;refine goW ?_;exact⟨_,rfl,rfl,h2,k2⟩
theorem rBeg_wp (hm:MonoC C){S:St}{R:List Rs}{rid i n:Nat}{a w:Int}{s:List UInt8}(h:Hs S (rdB rid s i a w n::R))
  (hle:∀b:UInt8,PF C 117 [.int .u8 b.toNat] (.bool (letC b))) (hd:∀b:UInt8,PF C 152 [.int .u8 b.toNat] (.bool (digC b))) :
  wpF gt C F116 [.ptr rid 0] S λr S'=>r=.ret (.bool (begB s i))/\S'=S:=by
 refine⟨rfl,?_⟩;refine goW ?_;refine step_ruleDO rfl rfl (sx_r1 h rfl) (goW ?_);refine step_ruleDO rfl rfl (sx_r0 h rfl) (goW ?_);by_cases hi:i<s.length
 case neg =>
  rw[dT (show (i:Int) ≥ s.length by omega)];refine goW ?_;refine⟨_,rfl,?_⟩;have:begB s i=false:=by unfold begB;rw[List.getElem?_eq_none (by omega)]
  rw[this];exact⟨rfl,rfl⟩
 rw[dF (show ¬(i:Int) ≥ s.length by omega)];have hb:s[i]? = some s[i]:=gE hi;have hv:begB s i=begC s[i]:=by unfold begB;rw[hb]
 rw[hv];generalize s[i]=b at hb;unfold begC;rw[beq_dec,beq_dec,beq_dec,beq_dec,beq_dec];refine goW ?_;refine step_ruleDO rfl rfl (sx_r0 h rfl) (goW ?_);refine step_ruleDO rfl rfl (sx_r1 h rfl) (goW ?_);refine step_ruleDO rfl rfl (sx_ixS (k:=i) rfl rfl hb) (goW ?_);refine call_pf hm (by rfl) (hle b) ?_;cases cl:letC b with
 | true =>
  refine goW ?_;exact⟨_,rfl,rfl,rfl⟩
 | false =>
 refine goW ?_;refine call_pf hm (by rfl) (hd b) ?_;cases cd:digC b with
 | true =>
  refine goW ?_;exact⟨_,rfl,rfl,rfl⟩
 | false =>
 refine goW ?_;cases c1:((b.toNat:Int) == ((45:Nat):Int)) with
 | true =>
  refine goW ?_;exact⟨_,rfl,rfl,rfl⟩
 | false =>
 refine goW ?_;cases c2:((b.toNat:Int) == ((34:Nat):Int)) with
 | true =>
  refine goW ?_;exact⟨_,rfl,rfl,rfl⟩
 | false =>
 refine goW ?_;cases c3:((b.toNat:Int) == ((91:Nat):Int)) with
 | true =>
  refine goW ?_;exact⟨_,rfl,rfl,rfl⟩
 | false =>
 refine goW ?_;cases c4:((b.toNat:Int) == ((123:Nat):Int)) with
 | true =>
  refine goW ?_;exact⟨_,rfl,rfl,rfl⟩
 | false =>
 refine goW ?_;cases c5:((b.toNat:Int) == ((64:Nat):Int)) with
 | false =>
  refine goW ?_;exact⟨_,rfl,rfl,rfl⟩
 | true =>
 refine goW ?_;refine step_ruleG rfl (sx_r5 h rfl) (goW ?_);exact⟨_,rfl,rfl,rfl⟩
end

set_option maxHeartbeats 64000000
section
variable {gt:GT}{C:CallT}
structure RfCs (C:CallT)(s:List UInt8):Prop where
 ok:∀{S:St} {R:List Rs} {rid i n:Nat} {a w:Int},Hs S (rdB rid s i a w n::R)->C 72 [.ptr rid 0] S λr S'=>r=.ret (.bool (w == 0))/\S'=S
 f0:∀{S:St} {R:List Rs} {rid i n:Nat} {a:Int} (at_:Nat) (why:Int),Hs S (rdB rid s i a 0 n::R)->C 73 [.ptr rid 0,.int .i64 why,.int .i64 at_] S λr S'=>r=.ret (.tup [])/\Hs S' (rdB rid s i (faiA s why at_) (faiW s why at_) n::R)/\Kp S' S
 fx:∀{S:St} {R:List Rs} {rid i n:Nat} {a w:Int} (at_ why:Int),Hs S (rdB rid s i a w n::R)->w≠0->C 73 [.ptr rid 0,.int .i64 why,.int .i64 at_] S λr S'=>r=.ret (.tup [])/\S'=S
 bla:∀{S:St} {R:List Rs} {rid i n:Nat} {a w:Int},Hs S (rdB rid s i a w n::R)->i<=s.length->C 70 [.ptr rid 0] S λr S'=>r=.ret (.tup [])/\Hs S' (rdB rid s (rowE blaC s i) a w n::R)/\Kp S' S
 is:∀{S:St} {R:List Rs} {rid i n:Nat} {a w:Int} (c:Nat),Hs S (rdB rid s i a w n::R)->C 156 [.ptr rid 0,.int .u8 c] S λr S'=>r=.ret (.bool ((w == 0) && isC s i c))/\S'=S
 take:∀{S:St} {R:List Rs} {rid i n:Nat} {a w:Int} (c:Nat),Hs S (rdB rid s i a w n::R)->i<=s.length->C 155 [.ptr rid 0,.int .u8 c] S (TakP rid s i n c a w R S)
 rowN:∀{S:St} {R:List Rs} {rid i n:Nat} {a w:Int} (at_:Nat),Hs S (rdB rid s i a w n::R)->at_<=s.length->C 153 [.ptr rid 0,.int .i64 at_,.str [43,45,46]] S λr S'=>r=.ret (.int .i64 (rowE numC s at_:Nat))/\S'=S
 rowT:∀{S:St} {R:List Rs} {rid i n:Nat} {a w:Int} (at_:Nat),Hs S (rdB rid s i a w n::R)->at_<=s.length->C 153 [.ptr rid 0,.int .i64 at_,.str [43,45,46,58]] S λr S'=>r=.ret (.int .i64 (rowE timC s at_:Nat))/\S'=S
 quo:∀{S:St} {R:List Rs} {rid i n:Nat},Hs S (rdB rid s i 0 0 n::R)->isC s i 34=true->C 119 [.ptr rid 0] S (QuoP rid s i n R S)
 beg:∀{S:St} {R:List Rs} {rid i n:Nat} {a w:Int},Hs S (rdB rid s i a w n::R)->C 116 [.ptr rid 0] S λr S'=>r=.ret (.bool (begB s i))/\S'=S
 le:∀b:UInt8,PF C 117 [.int .u8 b.toNat] (.bool (letC b))
 dg:∀b:UInt8,PF C 152 [.int .u8 b.toNat] (.bool (digC b))
 nor:∀t:List UInt8,t.length<=16777216->PF C 61 [.str t] (encJoin (normB t))
 time:∀t:List UInt8,t.length<=16777216->PF C 63 [.str t] (.bool (timeB t))
 len:s.length<=16777216
 num:∀t:List UInt8,0<=(normB t).2
theorem rPla_wp (hm:MonoC C){s:List UInt8}(K:RfCs C s){S:St}{R:List Rs}{rid i n:Nat}{b:UInt8}(h:Hs S (rdB rid s i 0 0 n::R))(hb:s[i]? = some b) :
  wpF gt C F118 [.ptr rid 0,.int .u8 b.toNat,.int .i64 i] S (PlaP rid s i n R S (plR s i b)):=by
 have hlt:i<s.length:=(List.getElem?_eq_some_iff.1 hb).1;have hl:=K.len;have hp:plR s i b=if letC b=true then (if midP s i (rowE letC s i)=w4null then .ok 1 [] (rowE letC s i) else .ok 2 (midP s i (rowE letC s i)) (rowE letC s i))
  else if (digC b || Nat.beq b.toNat 45)=true then (if (normB (midP s i (rowE numC s i))).2=0 then .ok 3 (normB (midP s i (rowE numC s i))).1 (rowE numC s i) else .bad i (normB (midP s i (rowE numC s i))).2.toNat)
  else if Nat.beq b.toNat 64=true then (if timeB (midP s (i+1) (rowE timC s (i+1)))=true then .ok 5 (midP s (i+1) (rowE timC s (i+1))) (rowE timC s (i+1)) else .bad i 20)
  else .ok 0 [] i:=rfl
 generalize plR s i b=res at hp ⊢;refine⟨rfl,?_⟩;refine goW ?_;refine call_pf hm (by rfl) (K.le b) ?_;cases cl:letC b with
 | true =>
  rw[if_pos cl]at hp;refine goW ?_;refine loop_rule hm (α:=Nat) (λj env S'=>Hs S' (rdB rid s j 0 0 n::R)/\Kp S' S/\i<=j/\j<=s.length/\rowE letC s j=rowE letC s i/\env=[(0,.val (.ptr rid 0)),(2,.val (.int .i64 i)),(6,.box zTc)]) (λj=>s.length-j) ?_ (a:=i) ⟨h,Kp.refl S,nR i,by omega,rfl,rfl⟩;rintro j env S1 ⟨h1,k1,hij,hj,he,rfl⟩;refine goW ?_;refine step_ruleDO rfl rfl (sx_r1 h1 rfl) (goW ?_);refine step_ruleDO rfl rfl (sx_r0 h1 rfl) (goW ?_);by_cases c:j<s.length
  case neg =>
   rw[dF (show ¬(j:Int)<s.length by omega)];refine goW ?_;refine step_ruleDO rfl rfl (sx_r0 h1 rfl) (goW ?_);refine step_ruleDO rfl rfl (sx_r1 h1 rfl) (goW ?_);refine step_ruleDO rfl rfl (sx_slLH (l:=i) (h:=j) rfl rfl rfl hij hj) (goW ?_);have e3:rowE letC s i=j:=by rw[<-he];exact rowE_end (by omega)
   rw[e3]at hp;have hm2:(s.drop i).take (j-i)=midP s i j:=rfl;rw[hm2];generalize midP s i j=m at hp;by_cases z1:m=w4null
   ·rw[beqB_iff.2 z1];rw[if_pos z1]at hp;refine goW ?_;refine⟨_,rfl,?_⟩;rw[hp];exact⟨_,rfl,TV.leaf rfl rfl rfl,h1,k1⟩
   rw[show beqB m [110,117,108,108]=false from by cases q:beqB m [110,117,108,108] with | true=>exact absurd (beqB_iff.1 q) z1 | false=>rfl];rw[if_neg z1]at hp;refine goW ?_;refine⟨_,rfl,?_⟩;rw[hp];exact⟨_,rfl,TV.leaf rfl rfl rfl,h1,k1⟩
  rw[dT (show (j:Int)<s.length by omega)];have hbj:s[j]? = some s[j]:=gE c;generalize s[j]=d at hbj;refine goW ?_;refine step_ruleDG rfl rfl rfl (sx_r0 h1 rfl) (goW ?_);refine step_ruleDG rfl rfl rfl (sx_r1 h1 rfl) (goW ?_);refine step_ruleDG rfl rfl rfl (sx_ixS (k:=j) rfl rfl hbj) (goW ?_);refine call_pfD hm (by rfl) (K.le d) ?_;cases hc:letC d with
  | true =>
   refine goW ?_;refine step_ruleO (sx_r1 h1 rfl) (goW ?_);rw[wr64 (by omega) (by omega),show (j:Int)+1=((j+1:Nat):Int) by omega];refine r_r1 h1 rfl rfl λS3 h3 k3=>?_;refine goW ?_;exact⟨j+1,⟨h3,k3.trans k1,by omega,by omega,by rw[<-he,rowE_in hbj hc],rfl⟩,by omega⟩
  | false =>
   refine goW ?_;refine step_ruleDO rfl rfl (sx_r0 h1 rfl) (goW ?_);refine step_ruleDO rfl rfl (sx_r1 h1 rfl) (goW ?_);refine step_ruleDO rfl rfl (sx_slLH (l:=i) (h:=j) rfl rfl rfl hij hj) (goW ?_);have e3:rowE letC s i=j:=by rw[<-he];exact rowE_out hbj hc
   rw[e3]at hp;have hm2:(s.drop i).take (j-i)=midP s i j:=rfl;rw[hm2];generalize midP s i j=m at hp;by_cases z1:m=w4null
   ·rw[beqB_iff.2 z1];rw[if_pos z1]at hp;refine goW ?_;refine⟨_,rfl,?_⟩;rw[hp];exact⟨_,rfl,TV.leaf rfl rfl rfl,h1,k1⟩
   rw[show beqB m [110,117,108,108]=false from by cases q:beqB m [110,117,108,108] with | true=>exact absurd (beqB_iff.1 q) z1 | false=>rfl];rw[if_neg z1]at hp;refine goW ?_;refine⟨_,rfl,?_⟩;rw[hp];exact⟨_,rfl,TV.leaf rfl rfl rfl,h1,k1⟩
 | false =>
  rw[if_neg (by rw[cl];exact Bool.false_ne_true)]at hp;refine goW ?_;refine call_pf hm (by rfl) (K.dg b) ?_;cases cd:digC b with
  | true =>
   refine goW ?_;rw[if_pos (by rw[cd];rfl)]at hp;refine call_rule (by rfl) (hm _ _ _ _ _ (K.rowN i h (by omega)) ?_);rintro r S2 ⟨rfl,rfl⟩;have r1:=rowE_ge (p:=numC) (s:=s) (i:=i);have r2:=rowE_le (p:=numC) (s:=s) (i:=i) (by omega);generalize rowE numC s i=e at hp r1 r2;refine goW ?_;refine step_ruleO (sx_r0 h rfl) (goW ?_);refine step_ruleO (sx_slLH (l:=i) (h:=e) rfl rfl rfl r1 r2) ?_;have hml:(midP s i e).length<=16777216:=by unfold midP;rw[lT,lD];omega
   have hno:=K.nor (midP s i e) hml;have hnn:=K.num (midP s i e);have hm2:(s.drop i).take (e-i)=midP s i e:=rfl;rw[hm2];generalize normB (midP s i e)=q at hno hnn hp;generalize midP s i e=m at hno;obtain⟨t,w⟩:=q;unfold encJoin at hno;simp only at hno hnn hp;refine goW ?_;refine call_pf hm (by rfl) hno (goW ?_);by_cases z:w=0
   ·rw[neI_false z];rw[if_pos z]at hp;refine goW ?_;refine r_r1 h rfl rfl λS3 h3 k3=>?_;refine goW ?_;refine⟨_,rfl,?_⟩;rw[hp];exact⟨_,rfl,TV.leaf rfl rfl rfl,h3,k3⟩
   ·rw[neI_true z];rw[if_neg z]at hp;obtain⟨w',rfl⟩:=Int.eq_ofNat_of_zero_le hnn;rw[Int.toNat_natCast]at hp;refine goW ?_;refine call_rule (by rfl) (hm _ _ _ _ _ (K.f0 i w' h) ?_);rintro r S3 ⟨rfl,h3,k3⟩;have f1:faiA s w' i=i:=by unfold faiA;rw[if_neg (by omega)]
    have f2:faiW s w' i=w':=by unfold faiW;rw[if_neg (by omega)]
    rw[f1,f2]at h3;refine goW ?_;refine⟨_,rfl,?_⟩;rw[hp];exact⟨_,rfl,TV.leaf rfl rfl rfl,h3,k3⟩
  | false =>
  have q45:((b.toNat:Int) == 45)=Nat.beq b.toNat 45:=(beq_dec b.toNat 45).symm;cases c45:Nat.beq b.toNat 45 with
  | true =>
   rw[c45]at q45;refine goW ?_;rw[q45];refine goW ?_;rw[if_pos (by rw[cd,c45];rfl)]at hp;refine call_rule (by rfl) (hm _ _ _ _ _ (K.rowN i h (by omega)) ?_);rintro r S2 ⟨rfl,rfl⟩;have r1:=rowE_ge (p:=numC) (s:=s) (i:=i);have r2:=rowE_le (p:=numC) (s:=s) (i:=i) (by omega);generalize rowE numC s i=e at hp r1 r2;refine goW ?_;refine step_ruleO (sx_r0 h rfl) (goW ?_);refine step_ruleO (sx_slLH (l:=i) (h:=e) rfl rfl rfl r1 r2) ?_;have hml:(midP s i e).length<=16777216:=by unfold midP;rw[lT,lD];omega
   have hno:=K.nor (midP s i e) hml;have hnn:=K.num (midP s i e);have hm2:(s.drop i).take (e-i)=midP s i e:=rfl;rw[hm2];generalize normB (midP s i e)=q at hno hnn hp;generalize midP s i e=m at hno;obtain⟨t,w⟩:=q;unfold encJoin at hno;simp only at hno hnn hp;refine goW ?_;refine call_pf hm (by rfl) hno (goW ?_);by_cases z:w=0
   ·rw[neI_false z];rw[if_pos z]at hp;refine goW ?_;refine r_r1 h rfl rfl λS3 h3 k3=>?_;refine goW ?_;refine⟨_,rfl,?_⟩;rw[hp];exact⟨_,rfl,TV.leaf rfl rfl rfl,h3,k3⟩
   ·rw[neI_true z];rw[if_neg z]at hp;obtain⟨w',rfl⟩:=Int.eq_ofNat_of_zero_le hnn;rw[Int.toNat_natCast]at hp;refine goW ?_;refine call_rule (by rfl) (hm _ _ _ _ _ (K.f0 i w' h) ?_);rintro r S3 ⟨rfl,h3,k3⟩;have f1:faiA s w' i=i:=by unfold faiA;rw[if_neg (by omega)]
    have f2:faiW s w' i=w':=by unfold faiW;rw[if_neg (by omega)]
    rw[f1,f2]at h3;refine goW ?_;refine⟨_,rfl,?_⟩;rw[hp];exact⟨_,rfl,TV.leaf rfl rfl rfl,h3,k3⟩
  | false =>
  rw[c45]at q45;rw[if_neg (by rw[cd,c45];exact Bool.false_ne_true)]at hp;have q64:((b.toNat:Int) == 64)=Nat.beq b.toNat 64:=(beq_dec b.toNat 64).symm;refine goW ?_;rw[q45];refine goW ?_;cases c64:Nat.beq b.toNat 64 with
  | false =>
   rw[c64]at q64;rw[if_neg (by rw[c64];exact Bool.false_ne_true)]at hp;rw[q64];refine goW ?_;refine⟨_,rfl,?_⟩;rw[hp];exact⟨_,rfl,TV.leaf rfl rfl rfl,h,Kp.refl _⟩
  | true =>
   rw[c64]at q64;rw[if_pos c64]at hp;rw[q64];refine goW ?_;rw[wr64 (by omega) (by omega),show (i:Int)+1=((i+1:Nat):Int) by omega];refine call_rule (by rfl) (hm _ _ _ _ _ (K.rowT (i+1) h (by omega)) ?_);rintro r S2 ⟨rfl,rfl⟩;have r1:=rowE_ge (p:=timC) (s:=s) (i:=i+1);have r2:=rowE_le (p:=timC) (s:=s) (i:=i+1) (by omega);generalize rowE timC s (i+1)=e at hp r1 r2;refine goW ?_;refine step_ruleO (sx_r0 h rfl) (goW ?_);rw[wr64 (by omega) (by omega),show (i:Int)+1=((i+1:Nat):Int) by omega];refine step_ruleO (sx_slLH (l:=i+1) (h:=e) rfl rfl rfl r1 r2) ?_;have hml:(midP s (i+1) e).length<=16777216:=by unfold midP;rw[lT,lD];omega
   have hm2:(s.drop (i+1)).take (e-(i+1))=midP s (i+1) e:=rfl;rw[hm2];refine goW ?_;refine call_pf hm (by rfl) (K.time _ hml) (goW ?_);cases ct:timeB (midP s (i+1) e) with
   | false =>
    rw[ct,if_neg Bool.false_ne_true]at hp;refine goW ?_;refine call_rule (by rfl) (hm _ _ _ _ _ (K.f0 i 20 h) ?_);rintro r S3 ⟨rfl,h3,k3⟩;have f1:faiA s 20 i=i:=by unfold faiA;rw[if_neg (by omega)]
    have f2:faiW s 20 i=20:=by unfold faiW;rw[if_neg (by omega)]
    rw[f1,f2]at h3;refine goW ?_;refine⟨_,rfl,?_⟩;rw[hp];exact⟨_,rfl,TV.leaf rfl rfl rfl,h3,k3⟩
   | true =>
    rw[ct,if_pos rfl]at hp;refine goW ?_;refine r_r1 h rfl rfl λS3 h3 k3=>?_;refine goW ?_;refine step_ruleO (sx_r0 h3 rfl) (goW ?_);rw[wr64 (by omega) (by omega),show (i:Int)+1=((i+1:Nat):Int) by omega];refine step_ruleO (sx_slLH (l:=i+1) (h:=e) rfl rfl rfl r1 r2) ?_;rw[hm2];refine goW ?_;refine⟨_,rfl,?_⟩;rw[hp];exact⟨_,rfl,TV.leaf rfl rfl rfl,h3,k3⟩
end

set_option maxHeartbeats 64000000
theorem letC_iff {c:UInt8}:letC c=true↔(97<=c.toNat/\c.toNat<=122)\/(65<=c.toNat/\c.toNat<=90):=by simp[letC,Nat.ble_eq]
theorem digC_iff {c:UInt8}:digC c=true↔48<=c.toNat/\c.toNat<=57:=by simp[digC,Nat.ble_eq]
theorem digX_iff {c:UInt8}:(digC c || Nat.beq c.toNat 45)=true↔(48<=c.toNat/\c.toNat<=57)\/c.toNat=45:=by rw[Bool.or_eq_true,digC_iff,Nat.beq_eq]
theorem begC_iff {c:UInt8}:begC c=true↔letC c=true\/(digC c || Nat.beq c.toNat 45)=true\/c.toNat=34\/c.toNat=91\/c.toNat=123\/c.toNat=64:=by
 unfold begC;simp only[Bool.or_eq_true,Nat.beq_eq,or_assoc]
theorem treeP_ref {s:List UInt8}(hnn:∀t:List UInt8,0<=(normB t).2){f deep i n:Nat}{c:UInt8}(hc:s[i]? = some c)(hb:begC c=true)
  (hw:letC c=true->midP s i (rowE letC s i)=w4null\/midP s i (rowE letC s i)=w4true\/midP s i (rowE letC s i)=w5false) :
  treeP s (f+1) deep i n=match plR s i c with
   |.bad b w=>.bad b w
   |.ok k t e=>nodP deep i n (if c.toNat=34 then quoQ s i n else if c.toNat=91 then lisP s f deep i (n+1) else if c.toNat=123 then rcP s f deep i (n+1) else .ok (.mk k t [] []) e (n+1)):=by
 have hi:i<s.length:=(List.getElem?_eq_some_iff.1 hc).1;rw[treeP_eq hnn (by omega)];simp only[isC_of hc];have nl:¬((97<=c.toNat/\c.toNat<=122)\/(65<=c.toNat/\c.toNat<=90))->¬letC c=true:=λh h'=>h (letC_iff.1 h');have nd:¬((48<=c.toNat/\c.toNat<=57)\/c.toNat=45)->¬(digC c || Nat.beq c.toNat 45)=true:=λh h'=>h (digX_iff.1 h');have n64:¬c.toNat=64->¬Nat.beq c.toNat 64=true:=λh h'=>h (bE h');by_cases h1:c.toNat=34
 ·rw[if_pos h1];unfold plR;rw[if_neg (nl (by omega)),if_neg (nd (by omega)),if_neg (n64 (by omega))];simp only;rw[if_pos h1]
 by_cases h2:c.toNat=91
 ·rw[if_neg h1,if_pos h2];unfold plR;rw[if_neg (nl (by omega)),if_neg (nd (by omega)),if_neg (n64 (by omega))];simp only;rw[if_neg h1,if_pos h2]
 by_cases h3:c.toNat=123
 ·rw[if_neg h1,if_neg h2,if_pos h3];unfold plR;rw[if_neg (nl (by omega)),if_neg (nd (by omega)),if_neg (n64 (by omega))];simp only;rw[if_neg h1,if_neg h2,if_pos h3]
 by_cases h4:c.toNat=64
 ·rw[if_neg h1,if_neg h2,if_neg h3,if_pos h4];unfold plR;rw[if_neg (nl (by omega)),if_neg (nd (by omega)),if_pos (show Nat.beq c.toNat 64=true by rw[h4];rfl)];by_cases h5:timeB (midP s (i+1) (rowE timC s (i+1)))=true
  ·rw[if_pos h5,if_pos h5];simp only;rw[if_neg h1,if_neg h2,if_neg h3]
  ·rw[if_neg h5,if_neg h5];rfl
 rw[if_neg h1,if_neg h2,if_neg h3,if_neg h4,scaQ_eq hnn hc];unfold scaP plR;by_cases h5:letC c=true
 ·have h6:¬(digC c || Nat.beq c.toNat 45)=true:=nd (by have:=letC_iff.1 h5;omega);rw[if_neg h6,if_pos h5,if_pos h5];by_cases h7:midP s i (rowE letC s i)=w4null
  ·rw[if_pos h7,if_pos h7];simp only;rw[if_neg h1,if_neg h2,if_neg h3]
  ·rw[if_neg h7,if_neg h7,if_pos ((hw h5).resolve_left h7)];simp only;rw[if_neg h1,if_neg h2,if_neg h3]
 ·rw[if_neg h5,if_neg h5];have h6:(digC c || Nat.beq c.toNat 45)=true:=by
   rcases begC_iff.1 hb with h | h | h | h | h | h
   ·exact absurd h h5
   ·exact h
   all_goals omega
  rw[if_pos h6,if_pos h6];by_cases h7:(normB (midP s i (rowE numC s i))).2=0
  ·rw[if_pos h7,if_pos h7];simp only;rw[if_neg h1,if_neg h2,if_neg h3]
  ·rw[if_neg h7,if_neg h7];simp only;rw[Int.toNat_of_nonneg (hnn _)]
theorem treeP_no {s:List UInt8}(hnn:∀t:List UInt8,0<=(normB t).2){f deep i n:Nat}(hi:i<=s.length)(hb:begB s i=false):treeP s (f+1) deep i n=errP s i:=by
 rw[treeP_eq hnn hi];unfold errP;cases hc:s[i]? with
 | none =>
  have e:∀c,¬isC s i c=true:=λc h=>by unfold isC at h;rw[hc]at h;cases h
  rw[if_neg (e _),if_neg (e _),if_neg (e _),if_neg (e _)];have:¬i<s.length:=λh=>by rw[gE h]at hc;cases hc
  rw[if_neg this];unfold scaQ scaR;rw[hc];rfl
 | some c =>
  have hi:i<s.length:=(List.getElem?_eq_some_iff.1 hc).1;have hbc:¬begC c=true:=by unfold begB at hb;rw[hc]at hb;rw[show begC c=false from hb];exact Bool.false_ne_true
  have hq:=λh=>hbc (begC_iff.2 h);simp only[isC_of hc];rw[if_neg (λh=>hq (.inr (.inr (.inl h)))),if_neg (λh=>hq (.inr (.inr (.inr (.inl h))))),if_neg (λh=>hq (.inr (.inr (.inr (.inr (.inl h)))))),if_neg (λh=>hq (.inr (.inr (.inr (.inr (.inr h)))))),if_pos hi,scaQ_eq hnn hc];unfold scaP;rw[if_neg (λh=>hq (.inr (.inl h))),if_neg (λh=>hq (.inl h))]
theorem treeP_word {s:List UInt8}(hnn:∀t:List UInt8,0<=(normB t).2){f deep i n:Nat}{c:UInt8}(hc:s[i]? = some c)(hl:letC c=true)
  (h1:midP s i (rowE letC s i)≠w4null) (h2:midP s i (rowE letC s i)≠w4true) (h3:midP s i (rowE letC s i)≠w5false):treeP s (f+1) deep i n=.bad i 13:=by
 have hi:i<s.length:=(List.getElem?_eq_some_iff.1 hc).1;have hx:=letC_iff.1 hl;rw[treeP_eq hnn (by omega)];simp only[isC_of hc];rw[if_neg (by omega),if_neg (by omega),if_neg (by omega),if_neg (by omega),scaQ_eq hnn hc];unfold scaP;rw[if_neg (λh=>by have:=digX_iff.1 h;omega),if_pos hl,if_neg h1,if_neg (λh=>h.elim h2 h3)]
def RfT (rid:Nat)(s:List UInt8)(R:List Rs)(S:St)(x:PR):Res->St->Prop:=λr S'=>match x with
 |.ok t e n=>∃v,r=.ret v/\TV S' t v/\Hs S' (rdB rid s e 0 0 n::R)/\Kp S' S
 |.bad a w=>∃t v j n,r=.ret v/\TV S' t v/\j<=s.length/\n<=4096/\Hs S' (rdB rid s j (a:Nat) w n::R)/\Kp S' S
def RLisC (C:CallT)(s:List UInt8)(f:Nat):Prop:=∀{S:St} {R:List Rs} {rid i n deep:Nat},Hs S (rdB rid s i 0 0 n::R)->isC s i 91=true->n<=4096->deep<=64->2*(s.length-(i+1))+2<=f->C 120 [.ptr rid 0,.int .i64 deep] S (RfT rid s R S (lisP s f deep i n))
def RRecC (C:CallT)(s:List UInt8)(f:Nat):Prop:=∀{S:St} {R:List Rs} {rid i n deep:Nat},Hs S (rdB rid s i 0 0 n::R)->isC s i 123=true->n<=4096->deep<=64->2*(s.length-(i+1))+2<=f->C 121 [.ptr rid 0,.int .i64 deep] S (RfT rid s R S (rcP s f deep i n))
section
variable {gt:GT}{C:CallT}
theorem valX_wp (hm:MonoC C){s:List UInt8}(K:RfCs C s){S:St}{R:List Rs}{rid i n:Nat}{a w:Int}{deep:Int}(h:Hs S (rdB rid s i a w n::R))(hw:w≠0) :
  wpF gt C F71 [.ptr rid 0,.int .i64 deep] S λr S'=>∃v,r=.ret v/\TV S' (.mk 0 [] [] []) v/\S'=S:=by
 refine⟨rfl,?_⟩;refine goW ?_;refine call_rule (by rfl) (hm _ _ _ _ _ (K.ok h) ?_);rintro r S2 ⟨rfl,rfl⟩;rw[eqI_false hw];refine goW ?_;exact⟨_,rfl,_,rfl,TV.leaf rfl rfl rfl,rfl⟩
end

set_option maxHeartbeats 64000000
section
variable {gt:GT}{C:CallT}
theorem valRest_wp (hm:MonoC C){s:List UInt8}(K:RfCs C s){f:Nat}(hL:RLisC C s f)(hR:RRecC C s f){S S0:St}{R:List Rs}{rid i n deep k:Nat}{v:Bool}{b:UInt8}{res:PR}(h:Hs S (rdB rid s i 0 0 n::R))(k0:Kp S S0)(hb:s[i]? = some b)(hn:n<=4096)(hd:deep<=65)(hf:2*(s.length-i)+1<=f+1)
  (hpla:C 118 [.ptr rid 0,.int .u8 b.toNat,.int .i64 i] S (PlaP rid s i n R S (plR s i b)))
  (he:∀k t e,plR s i b=.ok k t e->b.toNat=34\/b.toNat=91\/b.toNat=123->e=i)
  (hex:∀k t e,plR s i b=.ok k t e->e<=s.length) (hbx:∀x w,plR s i b=.bad x w->x<=s.length/\w≠0)
  (hp:res=match plR s i b with
   |.bad b w=>.bad b w
   |.ok k t e=>nodP deep i n (if b.toNat=34 then quoQ s i n else if b.toNat=91 then lisP s f deep i (n+1) else if b.toNat=123 then rcP s f deep i (n+1) else .ok (.mk k t [] []) e (n+1))) :
  wpD gt C (subC (F71).body [1,1,1,1,1,1]) [(0,.val (.ptr rid 0)),(1,.val (.int .i64 deep)),(4,.box zTc),(5,.val (.int .i64 i)),(6,.val (.int .u8 b.toNat)),(k,.val (.bool v))] S (bodyQ gt (F71).res (RfT rid s R S0 res)):=by
 have hlt:i<s.length:=(List.getElem?_eq_some_iff.1 hb).1;have hl:=K.len;refine goW ?_;refine call_rule (by rfl) (hm _ _ _ _ _ hpla ?_);intro r S2 hp2;unfold PlaP at hp2;cases e2:plR s i b with
 | bad x w =>
  obtain⟨x1,x2⟩:=hbx x w e2;rw[e2]at hp2 hp;have hp:res=.bad x w:=hp;obtain⟨v2,rfl,tv,h2,k2⟩:=hp2;obtain⟨o5,o6,x5,ev⟩:=tv.agg;simp only[PT.k,PT.s,PT.keys]at ev;generalize hy:strs []=y5 at ev;subst ev;refine goW ?_;refine call_rule (by rfl) (hm _ _ _ _ _ (K.ok h2) ?_);rintro r S3 ⟨rfl,rfl⟩;rw[eqI_false (show ¬(w:Int)=0 by omega)];refine goW ?_;refine⟨_,rfl,?_⟩;rw[hp];exact⟨_,_,i,n,rfl,TV.leaf rfl rfl rfl,by omega,hn,h2,k2.trans k0⟩
 | ok tk ts e =>
  have e3:=he tk ts e e2;have e4:=hex tk ts e e2;rw[e2]at hp2 hp;have hp:res=nodP deep i n (if b.toNat=34 then quoQ s i n else if b.toNat=91 then lisP s f deep i (n+1) else if b.toNat=123 then rcP s f deep i (n+1) else .ok (.mk tk ts [] []) e (n+1)):=hp;obtain⟨v2,rfl,tv,h2,k2⟩:=hp2;have k2:=k2.trans k0;obtain⟨o5,o6,x5,ev⟩:=tv.agg;simp only[PT.k,PT.s,PT.keys]at ev;generalize hy:strs []=y5 at ev;subst ev;refine goW ?_;refine call_rule (by rfl) (hm _ _ _ _ _ (K.ok h2) ?_);rintro r S3 ⟨rfl,rfl⟩;refine goW ?_;by_cases d1:64<deep
  ·rw[dT (show (deep:Int) > 64 by omega)];have hp:res=.bad i 4:=by rw[hp];unfold nodP;rw[if_pos d1]
   refine goW ?_;refine call_rule (by rfl) (hm _ _ _ _ _ (K.f0 i 4 h2) ?_);rintro r S4 ⟨rfl,h4,k4⟩;have f1:faiA s 4 i=i:=by unfold faiA;rw[if_neg (by omega)]
   have f2:faiW s 4 i=4:=by unfold faiW;rw[if_neg (by omega)]
   rw[f1,f2]at h4;refine goW ?_;refine⟨_,rfl,?_⟩;rw[hp];exact⟨_,_,e,n,rfl,TV.leaf rfl rfl rfl,e4,hn,h4,k4.trans k2⟩
  rw[dF (show ¬(deep:Int) > 64 by omega)];refine goW ?_;refine step_ruleO (sx_r4 h2 rfl) (goW ?_);by_cases d2:4096<n+1
  ·rw[eqI_true (show (n:Int)=4096 by omega)];have hp:res=.bad i 3:=by rw[hp];unfold nodP;rw[if_neg d1,if_pos d2]
   refine goW ?_;refine call_rule (by rfl) (hm _ _ _ _ _ (K.f0 i 3 h2) ?_);rintro r S4 ⟨rfl,h4,k4⟩;have f1:faiA s 3 i=i:=by unfold faiA;rw[if_neg (by omega)]
   have f2:faiW s 3 i=3:=by unfold faiW;rw[if_neg (by omega)]
   rw[f1,f2]at h4;refine goW ?_;refine⟨_,rfl,?_⟩;rw[hp];exact⟨_,_,e,n,rfl,TV.leaf rfl rfl rfl,e4,hn,h4,k4.trans k2⟩
  rw[eqI_false (show ¬(n:Int)=4096 by omega)];have hp:res=if b.toNat=34 then quoQ s i n else if b.toNat=91 then lisP s f deep i (n+1) else if b.toNat=123 then rcP s f deep i (n+1) else .ok (.mk tk ts [] []) e (n+1):=by rw[hp];unfold nodP;rw[if_neg d1,if_neg d2]
  refine goW ?_;refine step_ruleO (sx_r4 h2 rfl) (goW ?_);rw[wr64 (by omega) (by omega),show (n:Int)+1=((n+1:Nat):Int) by omega];refine r_r4 h2 rfl rfl λS5 h5 k5=>?_;have k5:=Kp.trans k5 k2;have tv5:=TV.kp (S':=S5) (S:=S3) ⟨k5.1.trans k2.1.symm,k5.2.trans k2.2.symm⟩ _ _ tv;refine goW ?_;by_cases g1:b.toNat=34
  ·rw[eqI_true (show (b.toNat:Int)=34 by omega)];rw[if_pos g1]at hp;obtain rfl:=e3 (.inl g1);have hbit:isC s e 34=true:=by rw[isC_of hb];exact g1
   refine goW ?_;refine call_rule (by rfl) (hm _ _ _ _ _ (K.quo h5 hbit) ?_);intro r S6 hp6;unfold QuoP at hp6;rw[hp];unfold quoQ;have hq:=(quoOK s).2 e;cases e6:quoB (s.drop e) with
   | bad a w =>
    have:=hq a w e4 e6;rw[e6]at hp6;obtain⟨rfl,h6,k6⟩:=hp6;refine goW ?_;exact⟨_,rfl,.mk 4 [] [] [],_,e,n+1,rfl,TV.leaf rfl rfl rfl,e4,by omega,h6,k6.trans k5⟩
   | ok t u =>
    rw[e6]at hp6;obtain⟨rfl,h6,k6⟩:=hp6;refine goW ?_;exact⟨_,rfl,_,rfl,TV.leaf rfl rfl rfl,h6,k6.trans k5⟩
  rw[eqI_false (show ¬(b.toNat:Int)=34 by omega)];rw[if_neg g1]at hp;refine goW ?_;by_cases g2:b.toNat=91
  ·rw[eqI_true (show (b.toNat:Int)=91 by omega)];rw[if_pos g2]at hp;obtain rfl:=e3 (.inr (.inl g2));have hbit:isC s e 91=true:=by rw[isC_of hb];exact g2
   refine goW ?_;refine call_rule (by rfl) (hm _ _ _ _ _ (hL h5 hbit (by omega) (by omega) (by omega)) ?_);intro r S6 hp6;rw[hp];cases e6:lisP s f deep e (n+1) with
   | bad a w =>
    rw[e6]at hp6;obtain⟨t6,v6,j,m,rfl,tv6,j6,m6,h6,k6⟩:=hp6;obtain⟨o7,o8,x7,ev⟩:=tv6.agg;generalize hy:strs t6.keys=y7 at ev;generalize t6.k=tk at ev;generalize t6.s=ts at ev;subst ev;refine goW ?_;exact⟨_,rfl,t6,_,j,m,rfl,tv6,j6,m6,h6,k6.trans k5⟩
   | ok t e m =>
    rw[e6]at hp6;obtain⟨v6,rfl,tv6,h6,k6⟩:=hp6;obtain⟨o7,o8,x7,ev⟩:=tv6.agg;generalize hy:strs t.keys=y7 at ev;generalize t.k=tk at ev;generalize t.s=ts at ev;subst ev;refine goW ?_;exact⟨_,rfl,_,rfl,tv6,h6,k6.trans k5⟩
  rw[eqI_false (show ¬(b.toNat:Int)=91 by omega)];rw[if_neg g2]at hp;refine goW ?_;by_cases g3:b.toNat=123
  ·rw[eqI_true (show (b.toNat:Int)=123 by omega)];rw[if_pos g3]at hp;obtain rfl:=e3 (.inr (.inr g3));have hbit:isC s e 123=true:=by rw[isC_of hb];exact g3
   refine goW ?_;refine call_rule (by rfl) (hm _ _ _ _ _ (hR h5 hbit (by omega) (by omega) (by omega)) ?_);intro r S6 hp6;rw[hp];cases e6:rcP s f deep e (n+1) with
   | bad a w =>
    rw[e6]at hp6;obtain⟨t6,v6,j,m,rfl,tv6,j6,m6,h6,k6⟩:=hp6;obtain⟨o7,o8,x7,ev⟩:=tv6.agg;generalize hy:strs t6.keys=y7 at ev;generalize t6.k=tk at ev;generalize t6.s=ts at ev;subst ev;refine goW ?_;exact⟨_,rfl,t6,_,j,m,rfl,tv6,j6,m6,h6,k6.trans k5⟩
   | ok t e m =>
    rw[e6]at hp6;obtain⟨v6,rfl,tv6,h6,k6⟩:=hp6;obtain⟨o7,o8,x7,ev⟩:=tv6.agg;generalize hy:strs t.keys=y7 at ev;generalize t.k=tk at ev;generalize t.s=ts at ev;subst ev;refine goW ?_;exact⟨_,rfl,_,rfl,tv6,h6,k6.trans k5⟩
  rw[eqI_false (show ¬(b.toNat:Int)=123 by omega)];rw[if_neg g3]at hp;refine goW ?_;refine⟨_,rfl,?_⟩;rw[hp];exact⟨_,rfl,tv5,h5,k5⟩
end

set_option maxHeartbeats 64000000
theorem plR_e {s:List UInt8}{i:Nat}{c:UInt8}:∀k t e,plR s i c=.ok k t e->c.toNat=34\/c.toNat=91\/c.toNat=123->e=i:=λk t e h hc=>by
 have nl:¬letC c=true:=λh=>by have:=letC_iff.1 h;omega
 have nd:¬(digC c || Nat.beq c.toNat 45)=true:=λh=>by have:=digX_iff.1 h;omega
 have n64:¬Nat.beq c.toNat 64=true:=λh=>by have:=bE h;omega
 unfold plR at h;rw[if_neg nl,if_neg nd,if_neg n64]at h;cases h;rfl
theorem plR_le {s:List UInt8}{i:Nat}{c:UInt8}(hi:i<s.length):∀k t e,plR s i c=.ok k t e->e<=s.length:=λk t e h=>by
 have h1:=rowE_le (p:=letC) (s:=s) (i:=i) (by omega);have h2:=rowE_le (p:=numC) (s:=s) (i:=i) (by omega);have h3:=rowE_le (p:=timC) (s:=s) (i:=i+1) (by omega);unfold plR at h
 (repeat' split at h)<;>first | (cases h;omega) | (cases h)
theorem plR_bad {s:List UInt8}(hnn:∀t:List UInt8,0<=(normB t).2){i:Nat}{c:UInt8}(hi:i<s.length):∀x w,plR s i c=.bad x w->x<=s.length/\w≠0:=λx w h=>by
 have h2:=hnn (midP s i (rowE numC s i));unfold plR at h
 (repeat' split at h)<;>first | (cases h;omega) | (cases h)
def ValC (C:CallT)(s:List UInt8)(f:Nat):Prop:=∀{S:St} {R:List Rs} {rid i n deep:Nat},Hs S (rdB rid s i 0 0 n::R)->i<=s.length->n<=4096->deep<=65->2*(s.length-i)+1<=f->C 71 [.ptr rid 0,.int .i64 deep] S (RfT rid s R S (treeP s f deep i n))
section
variable {gt:GT}{C:CallT}
theorem rVal_wp (hm:MonoC C){s:List UInt8}(K:RfCs C s){f:Nat}(hL:RLisC C s f)(hR:RRecC C s f){S:St}{R:List Rs}{rid i n deep:Nat}(h:Hs S (rdB rid s i 0 0 n::R))(hi:i<=s.length)(hn:n<=4096)(hd:deep<=65)(hf:2*(s.length-i)+1<=f+1)
  (hpla:∀{b:UInt8},s[i]? = some b->C 118 [.ptr rid 0,.int .u8 b.toNat,.int .i64 i] S (PlaP rid s i n R S (plR s i b))) :
  wpF gt C F71 [.ptr rid 0,.int .i64 deep] S (RfT rid s R S (treeP s (f+1) deep i n)):=by
 have hl:=K.len;refine⟨rfl,?_⟩;refine goW ?_;refine call_rule (by rfl) (hm _ _ _ _ _ (K.ok h) ?_);rintro r S2 ⟨rfl,rfl⟩;refine goW ?_;refine step_ruleO (sx_r1 h rfl) (goW ?_);refine call_rule (by rfl) (hm _ _ _ _ _ (K.beg h) ?_);rintro r S3 ⟨rfl,rfl⟩;refine goW ?_;cases hbe:begB s i with
 | false =>
  refine goW ?_;refine call_rule (by rfl) (hm _ _ _ _ _ (K.f0 i 13 h) ?_);rintro r S4 ⟨rfl,h4,k4⟩;rw[(fai13 s hi).1,(fai13 s hi).2]at h4;refine goW ?_;refine⟨_,rfl,?_⟩;rw[treeP_no K.num hi hbe,errP_eq];exact⟨_,_,i,n,rfl,TV.leaf rfl rfl rfl,hi,hn,h4,k4⟩
 | true =>
 have hb:∃b,s[i]? = some b/\begC b=true:=by
  unfold begB at hbe;split at hbe
  ·rename_i b e;exact⟨b,e,hbe⟩
  ·cases hbe
 obtain⟨b,hb,hbc⟩:=hb;have hlt:i<s.length:=(List.getElem?_eq_some_iff.1 hb).1;refine goW ?_;refine step_ruleO (sx_r0 h rfl) (goW ?_);refine step_ruleO (sx_ixS (k:=i) rfl rfl hb) (goW ?_);refine call_pf hm (by rfl) (K.le b) ?_;cases cl:letC b with
 | false =>
  have hp:=treeP_ref (f:=f) (deep:=deep) (n:=n) K.num hb hbc (λh=>by rw[cl]at h;cases h)
  conv=>whnf
  generalize hE:keepE _ _=e0
  revert hE
  apply kI
  ·(repeat (first | exact kN _ | (apply kC;with_unfolding_all rfl;rfl)))
  rintro rfl;exact valRest_wp hm K hL hR h (Kp.refl _) hb hn hd hf (hpla hb) plR_e (plR_le hlt) (plR_bad K.num hlt) hp
 | true =>
  refine goW ?_;refine loop_rule hm (α:=Nat) (λj env S'=>S'=S3/\i<=j/\j<=s.length/\rowE letC s j=rowE letC s i/\env=[(0,.val (.ptr rid 0)),(1,.val (.int .i64 deep)),(4,.box zTc),(5,.val (.int .i64 i)),(6,.val (.int .u8 b.toNat)),(7,.val (.int .i64 j))]) (λj=>s.length-j) ?_ (a:=i) ⟨rfl,nR i,by omega,rfl,rfl⟩;rintro j env S5 ⟨rfl,hij,hj,he,rfl⟩;refine goW ?_;refine step_ruleO (sx_r0 h rfl) (goW ?_);by_cases c:j<s.length
  case neg =>
   rw[dF (show ¬(j:Int)<s.length by omega)];refine goW ?_;refine step_ruleO (sx_r0 h rfl) (goW ?_);refine step_ruleO (sx_slLH (l:=i) (h:=j) rfl rfl rfl hij hj) (goW ?_);have e3:rowE letC s i=j:=by rw[<-he];exact rowE_end (by omega)
   have hm2:(s.drop i).take (j-i)=midP s i (rowE letC s i):=by rw[e3];rfl
   rw[hm2];have hw1:=treeP_word (f:=f) (deep:=deep) (n:=n) K.num hb cl;have hw2:=treeP_ref (f:=f) (deep:=deep) (n:=n) K.num hb hbc;generalize midP s i (rowE letC s i)=m at hw1 hw2;by_cases z1:m=w4null
   ·have hp:=hw2 λ_=>.inl z1;rw[beqB_iff.2 z1];refine goJ ?_;exact valRest_wp hm K hL hR h (Kp.refl _) hb hn hd hf (hpla hb) plR_e (plR_le hlt) (plR_bad K.num hlt) hp
   rw[show beqB m [110,117,108,108]=false from by cases q:beqB m [110,117,108,108] with | true=>exact absurd (beqB_iff.1 q) z1 | false=>rfl];refine goW ?_;by_cases z2:m=w4true
   ·have hp:=hw2 λ_=>.inr (.inl z2);rw[beqB_iff.2 z2];refine goJ ?_;exact valRest_wp hm K hL hR h (Kp.refl _) hb hn hd hf (hpla hb) plR_e (plR_le hlt) (plR_bad K.num hlt) hp
   rw[show beqB m [116,114,117,101]=false from by cases q:beqB m [116,114,117,101] with | true=>exact absurd (beqB_iff.1 q) z2 | false=>rfl];refine goW ?_;by_cases z3:m=w5false
   ·have hp:=hw2 λ_=>.inr (.inr z3);rw[beqB_iff.2 z3]
    conv=>whnf
    exact valRest_wp hm K hL hR h (Kp.refl _) hb hn hd hf (hpla hb) plR_e (plR_le hlt) (plR_bad K.num hlt) hp
   rw[show beqB m [102,97,108,115,101]=false from by cases q:beqB m [102,97,108,115,101] with | true=>exact absurd (beqB_iff.1 q) z3 | false=>rfl];refine goW ?_;refine call_rule (by rfl) (hm _ _ _ _ _ (K.f0 i 13 h) ?_);rintro r S4 ⟨rfl,h4,k4⟩;have f1:faiA s 13 i=i:=by unfold faiA;rw[if_neg (by omega)]
   have f2:faiW s 13 i=13:=by unfold faiW;rw[if_neg (by omega)]
   rw[f1,f2]at h4;refine goW ?_;refine⟨_,rfl,?_⟩;rw[hw1 z1 z2 z3];exact⟨_,_,i,n,rfl,TV.leaf rfl rfl rfl,hi,hn,h4,k4⟩
  rw[dT (show (j:Int)<s.length by omega)];have hbj:s[j]? = some s[j]:=gE c;generalize s[j]=d at hbj;refine goW ?_;refine step_ruleG rfl (sx_r0 h rfl) (goW ?_);refine step_ruleG rfl (sx_ixS (k:=j) rfl rfl hbj) (goW ?_);refine call_pf hm (by rfl) (K.le d) ?_;cases hc:letC d with
  | true =>
   refine goW ?_;rw[wr64 (by omega) (by omega),show (j:Int)+1=((j+1:Nat):Int) by omega];exact⟨j+1,⟨rfl,by omega,by omega,by rw[<-he,rowE_in hbj hc],rfl⟩,by omega⟩
  | false =>
   refine goW ?_;refine step_ruleO (sx_r0 h rfl) (goW ?_);refine step_ruleO (sx_slLH (l:=i) (h:=j) rfl rfl rfl hij hj) (goW ?_);have e3:rowE letC s i=j:=by rw[<-he];exact rowE_out hbj hc
   have hm2:(s.drop i).take (j-i)=midP s i (rowE letC s i):=by rw[e3];rfl
   rw[hm2];have hw1:=treeP_word (f:=f) (deep:=deep) (n:=n) K.num hb cl;have hw2:=treeP_ref (f:=f) (deep:=deep) (n:=n) K.num hb hbc;generalize midP s i (rowE letC s i)=m at hw1 hw2;by_cases z1:m=w4null
   ·have hp:=hw2 λ_=>.inl z1;rw[beqB_iff.2 z1];refine goJ ?_;exact valRest_wp hm K hL hR h (Kp.refl _) hb hn hd hf (hpla hb) plR_e (plR_le hlt) (plR_bad K.num hlt) hp
   rw[show beqB m [110,117,108,108]=false from by cases q:beqB m [110,117,108,108] with | true=>exact absurd (beqB_iff.1 q) z1 | false=>rfl];refine goW ?_;by_cases z2:m=w4true
   ·have hp:=hw2 λ_=>.inr (.inl z2);rw[beqB_iff.2 z2];refine goJ ?_;exact valRest_wp hm K hL hR h (Kp.refl _) hb hn hd hf (hpla hb) plR_e (plR_le hlt) (plR_bad K.num hlt) hp
   rw[show beqB m [116,114,117,101]=false from by cases q:beqB m [116,114,117,101] with | true=>exact absurd (beqB_iff.1 q) z2 | false=>rfl];refine goW ?_;by_cases z3:m=w5false
   ·have hp:=hw2 λ_=>.inr (.inr z3);rw[beqB_iff.2 z3]
    conv=>whnf
    exact valRest_wp hm K hL hR h (Kp.refl _) hb hn hd hf (hpla hb) plR_e (plR_le hlt) (plR_bad K.num hlt) hp
   rw[show beqB m [102,97,108,115,101]=false from by cases q:beqB m [102,97,108,115,101] with | true=>exact absurd (beqB_iff.1 q) z3 | false=>rfl];refine goW ?_;refine call_rule (by rfl) (hm _ _ _ _ _ (K.f0 i 13 h) ?_);rintro r S4 ⟨rfl,h4,k4⟩;have f1:faiA s 13 i=i:=by unfold faiA;rw[if_neg (by omega)]
   have f2:faiW s 13 i=13:=by unfold faiW;rw[if_neg (by omega)]
   rw[f1,f2]at h4;refine goW ?_;refine⟨_,rfl,?_⟩;rw[hw1 z1 z2 z3];exact⟨_,_,i,n,rfl,TV.leaf rfl rfl rfl,hi,hn,h4,k4⟩
end

set_option maxHeartbeats 64000000
theorem isC_ne {s:List UInt8}{i c d:Nat}(h:isC s i c=true)(hd:c≠d):¬isC s i d=true:=λh2=>by
 obtain⟨b,h3,h4⟩:=isC_some h;obtain⟨b2,h5,h6⟩:=isC_some h2;rw[h3]at h5;cases h5;exact hd (h4.symm.trans h6)
def topL (s:List UInt8)(g deep q m:Nat)(acc:List PT):PR:=if isC s q 93=true then .ok (.mk 6 [] [] acc) (q+1) m else if acc=[] then listP s g deep q m [] else if isC s q 44=true then listP s g deep (q+1) m acc else errP s q
def ValX (C:CallT)(s:List UInt8):Prop:=∀{S:St} {R:List Rs} {rid i n:Nat} {a w deep:Int},Hs S (rdB rid s i a w n::R)->w≠0->C 71 [.ptr rid 0,.int .i64 deep] S λr S'=>∃v,r=.ret v/\TV S' (.mk 0 [] [] []) v/\S'=S
section
variable {gt:GT}{C:CallT}
abbrev E_rl (rid deep:Nat)(o:SI)(xs:List AV):Env:=[(0,.val (.ptr rid 0)),(1,.val (.int .i64 deep)),(4,.box zTc),(5,.box [.int .i64 6,.str [],nil1,.sl 4 o xs])]
theorem rList_wp (hm:MonoC C){s:List UInt8}(K:RfCs C s){f:Nat}(hV:∀g,g<f->ValC C s g)(hX:ValX C s){S:St}{R:List Rs}{rid i n deep:Nat}(h:Hs S (rdB rid s i 0 0 n::R))(hi:isC s i 91=true)(hn:n<=4096)(hd:deep<=64)(hf:2*(s.length-(i+1))+2<=f) :
  wpF gt C F120 [.ptr rid 0,.int .i64 deep] S (RfT rid s R S (lisP s f deep i n)):=by
 have hlt:=isC_lt hi;have hl:=K.len;refine⟨rfl,?_⟩;refine goW ?_;refine call_rule (by rfl) (hm _ _ _ _ _ (K.take 91 h (by omega)) ?_);rintro r S1 ⟨rfl,k1,h1⟩;rw[if_pos rfl,if_pos hi]at h1;refine goW ?_;refine call_rule (by rfl) (hm _ _ _ _ _ (K.bla h1 hlt) ?_);rintro r S2 ⟨rfl,h2,k2⟩;have k2:=k2.trans k1;have b1:=rowE_ge (p:=blaC) (s:=s) (i:=i+1);have b2:=rowE_le (p:=blaC) (s:=s) (i:=i+1) hlt;have hA:Hs S2 (rdB rid s (rowE blaC s (i+1)) 0 0 n::(R++[Rs.gr 25 ⟨none,0,some 0,true⟩ []])):=h2.addNil 25 true;have hB:lisP s f deep i n=topL s f deep (rowE blaC s (i+1)) n []:=by
  unfold lisP topL;rw[if_pos (show ([]:List PT)=[] from rfl),listP_bl]
 generalize lisP s f deep i n=res at hB ⊢;refine goW ?_;refine loop_rule hm (α:=Nat) (λx env S'=>(∃g q m acc o xs,Hs S' (rdB rid s q 0 0 m::(R++[Rs.gr 25 o xs]))/\TVs S' acc xs/\Kp S' S/\q<=s.length/\m<=4096/\acc.length<=m/\rowE blaC s q=q/\res=topL s g deep q m acc/\2*(s.length-q)+2<=g/\g<=f/\env=E_rl rid deep o xs/\x=g+1) \/
  (∃j m a w acc o xs,Hs S' (rdB rid s j (a:Nat) w m::(R++[Rs.gr 25 o xs]))/\TVs S' acc xs/\Kp S' S/\j<=s.length/\m<=4096/\w≠0/\res=.bad a w/\env=E_rl rid deep o xs/\x=0)) (λx=>x) ?_ (a:=f+1) (.inl ⟨f,_,n,[],⟨none,0,some 0,true⟩,[],hA,(by simp only[TVs]),k2,b2,hn,Nat.zero_le _,rowE_idem,hB,by omega,nR _,rfl,rfl⟩)
 rintro x env S3 (⟨g,q,m,acc,o,xs,h3,tv3,k3,hq,hm2,ha,hqb,hp,hg,hgf,rfl,rfl⟩ | ⟨j,m,a,w,acc,o,xs,h3,tv3,k3,hj,hm2,hw,hp,rfl,rfl⟩)
 case inr =>
  refine goW ?_;refine call_rule (by rfl) (hm _ _ _ _ _ (K.ok h3) ?_);rintro r S4 ⟨rfl,rfl⟩;rw[eqI_false hw];refine goW ?_;refine call_rule (by rfl) (hm _ _ _ _ _ (K.take 93 h3 hj) ?_);rintro r S5 ⟨rfl,k5,h5⟩;rw[if_neg hw]at h5;refine goW ?_;refine⟨_,rfl,?_⟩;rw[hp];refine⟨.mk 6 [] [] acc,_,j,m,rfl,?_,hj,hm2,Hs.init1 h5,k5.trans k3⟩;simp only[TV];exact⟨⟨none,0,some 0,true⟩,o,xs,rfl,rfl,(h5.ok (R.length+1) (.gr 25 o xs) (by simp)).rd,TVs.kp k5 _ _ tv3⟩
 cases g with
 | zero=>omega
 | succ g =>
 have hxl:=TVs.len acc xs tv3;refine goW ?_;refine call_rule (by rfl) (hm _ _ _ _ _ (K.ok h3) ?_);rintro r S4 ⟨rfl,rfl⟩;refine goW ?_;refine call_rule (by rfl) (hm _ _ _ _ _ (K.is 93 h3) ?_);rintro r S5 ⟨rfl,rfl⟩;unfold topL at hp;cases z1:isC s q 93 with
 | true =>
  have z2:=isC_lt z1;rw[z1,if_pos rfl]at hp;refine goW ?_;refine call_rule (by rfl) (hm _ _ _ _ _ (K.take 93 h3 hq) ?_);rintro r S6 ⟨rfl,k6,h6⟩;rw[if_pos rfl,if_pos z1]at h6;refine goW ?_;refine⟨_,rfl,?_⟩;rw[hp];refine⟨_,rfl,?_,Hs.init1 h6,k6.trans k3⟩;simp only[TV];exact⟨⟨none,0,some 0,true⟩,o,xs,rfl,rfl,(h6.ok (R.length+1) (.gr 25 o xs) (by simp)).rd,TVs.kp k6 _ _ tv3⟩
 | false =>
 rw[z1,if_neg Bool.false_ne_true]at hp;refine goW ?_;by_cases z3:acc=[]
 ·rw[dF (show ¬(xs.length:Int) > 0 by rw[hxl,z3];simp)];rw[if_pos z3,<-z3,listP,hqb]at hp;have h4:=h3;have tv4:=tv3;have k4:=k3;have q1:=hq;refine goW ?_;rw[wr64 (by omega) (by omega),show (deep:Int)+1=((deep+1:Nat):Int) by omega];refine call_ruleD (by rfl) (hm _ _ _ _ _ (hV g (by omega) h4 q1 hm2 (by omega) (by omega)) ?_);intro r S5 hp5;cases e5:treeP s g (deep+1) q m with
  | bad a w =>
   have fi:=(reads_fine (quoOK s) K.num (by decide) g).1 (deep+1) q m q1 (by omega);rw[e5]at hp5 hp fi;have hp:res=.bad a w:=hp;obtain⟨f1,f2⟩:=fi;obtain⟨t,v,j,m3,rfl,tv5,j5,m5,h5,k5⟩:=hp5;have tv4:=TVs.kp k5 _ _ tv4;have k5:=k5.trans k4;obtain⟨o5,o6,x5,ev⟩:=tv5.agg;generalize hy:strs t.keys=y5 at ev;generalize t.k=tk at ev;generalize t.s=ts at ev;subst ev;refine goW ?_;have hxy:xs.length<=4096:=by omega
   refine r_appDK h5 (R.length+1) (by simp) (by trivial) rfl rfl rfl (by simp;omega) (by simp;omega) (by decide) (by decide) rfl ?_;intro o7 S7 h7 k7;rw[List.set_cons_succ,List.set_append_right _ _ (nR _),Nat.sub_self]at h7;have tv7:=TVs.kp k7 _ _ (TVs.snoc acc xs tv4 tv5);have k7:Kp S7 S:=Kp.trans k7 k5;have hz2:xs++(List.replicate 1 (AV.agg [AV.int IntKind.i64 0,AV.str [],AV.sl 1 { tok:=none,off:=0,cap:=some 0,isNil:=true } [],AV.sl 4 { tok:=none,off:=0,cap:=some 0,isNil:=true } []])).set 0 (AV.agg [AV.int IntKind.i64 tk,AV.str ts,AV.sl 1 o5 y5,AV.sl 4 o6 x5])=xs++[AV.agg [.int .i64 tk,.str ts,.sl 1 o5 y5,.sl 4 o6 x5]]:=rfl;rw[hz2]at h7;generalize hz:xs++[AV.agg [.int .i64 tk,.str ts,.sl 1 o5 y5,.sl 4 o6 x5]]=zs at hz2 h7 tv7;refine goW ?_;rw[hz2];refine call_rule (by rfl) (hm _ _ _ _ _ (K.bla h7 j5) ?_);rintro r S8 ⟨rfl,h8,k8⟩;refine goW ?_;exact⟨0,.inr ⟨_,m3,a,w,_,o7,zs,h8,TVs.kp k8 _ _ tv7,k8.trans k7,rowE_le j5,m5,by omega,hp,rfl,rfl⟩,by omega⟩
  | ok t e m2 =>
   have fi:=(reads_fine (quoOK s) K.num (by decide) g).1 (deep+1) q m q1 (by omega);rw[e5]at hp5 hp fi;have hp:res=if isC s (rowE blaC s e) 44=true then listP s g deep (rowE blaC s e+1) m2 (acc++[t]) else if isC s (rowE blaC s e) 93=true then .ok (.mk 6 [] [] (acc++[t])) (rowE blaC s e+1) m2 else errP s (rowE blaC s e):=hp
   obtain⟨f1,f2,f3,f4,f5⟩:=fi;obtain⟨v,rfl,tv5,h5,k5⟩:=hp5;have tv4:=TVs.kp k5 _ _ tv4;have k5:=k5.trans k4;obtain⟨o5,o6,x5,ev⟩:=tv5.agg;generalize hy:strs t.keys=y5 at ev;generalize t.k=tk at ev;generalize t.s=ts at ev;subst ev;refine goW ?_;have hxy:xs.length<=4096:=by omega
   refine r_appDK h5 (R.length+1) (by simp) (by trivial) rfl rfl rfl (by simp;omega) (by simp;omega) (by decide) (by decide) rfl ?_;intro o7 S7 h7 k7;rw[List.set_cons_succ,List.set_append_right _ _ (nR _),Nat.sub_self]at h7;have tv7:=TVs.kp k7 _ _ (TVs.snoc acc xs tv4 tv5);have k7:Kp S7 S:=Kp.trans k7 k5;have hz2:xs++(List.replicate 1 (AV.agg [AV.int IntKind.i64 0,AV.str [],AV.sl 1 { tok:=none,off:=0,cap:=some 0,isNil:=true } [],AV.sl 4 { tok:=none,off:=0,cap:=some 0,isNil:=true } []])).set 0 (AV.agg [AV.int IntKind.i64 tk,AV.str ts,AV.sl 1 o5 y5,AV.sl 4 o6 x5])=xs++[AV.agg [.int .i64 tk,.str ts,.sl 1 o5 y5,.sl 4 o6 x5]]:=rfl;rw[hz2]at h7;generalize hz:xs++[AV.agg [.int .i64 tk,.str ts,.sl 1 o5 y5,.sl 4 o6 x5]]=zs at hz2 h7 tv7;refine goW ?_;rw[hz2];refine call_rule (by rfl) (hm _ _ _ _ _ (K.bla h7 f2) ?_);rintro r S8 ⟨rfl,h8,k8⟩;have d1:=rowE_ge (p:=blaC) (s:=s) (i:=e);have d2:=rowE_le (p:=blaC) (s:=s) (i:=e) f2;refine goW ?_;refine⟨g+1,.inl ⟨g,rowE blaC s e,m2,acc++[t],o7,zs,h8,TVs.kp k8 _ _ tv7,k8.trans k7,d2,f4,by simp only[lA,lC,lN];omega,rowE_idem,?_,by omega,by omega,rfl,rfl⟩,by omega⟩;rw[hp];unfold topL;by_cases x1:isC s (rowE blaC s e) 44=true
   ·rw[if_pos x1,if_neg (isC_ne x1 (by decide)),if_neg (by simp),if_pos x1]
   ·rw[if_neg x1];by_cases x2:isC s (rowE blaC s e) 93=true
    ·rw[if_pos x2,if_pos x2]
    ·rw[if_neg x2,if_neg x2,if_neg (by simp),if_neg x1]
 have z4:0<acc.length:=List.length_pos_iff.2 z3;rw[dT (show (xs.length:Int) > 0 by rw[hxl];omega)];rw[if_neg z3]at hp;refine goW ?_;refine call_rule (by rfl) (hm _ _ _ _ _ (K.take 44 h3 hq) ?_);rintro r S6 ⟨rfl,k6,h6⟩;rw[if_pos rfl]at h6;have tv6:=TVs.kp k6 _ _ tv3;have k6:=k6.trans k3;by_cases z5:isC s q 44=true
 ·have z6:=isC_lt z5;rw[if_pos z5]at h6 hp;rw[listP]at hp;refine goW ?_;refine call_rule (by rfl) (hm _ _ _ _ _ (K.bla h6 z6) ?_);rintro r S7 ⟨rfl,h4,k4⟩;have tv4:=TVs.kp k4 _ _ tv6;have k4:=k4.trans k6;have q0:=rowE_ge (p:=blaC) (s:=s) (i:=q+1);have q1:=rowE_le (p:=blaC) (s:=s) (i:=q+1) z6;generalize rowE blaC s (q+1)=q' at hp h4 q0 q1;refine goW ?_;rw[wr64 (by omega) (by omega),show (deep:Int)+1=((deep+1:Nat):Int) by omega];refine call_ruleD (by rfl) (hm _ _ _ _ _ (hV g (by omega) h4 q1 hm2 (by omega) (by omega)) ?_);intro r S5 hp5;cases e5:treeP s g (deep+1) q' m with
  | bad a w =>
   have fi:=(reads_fine (quoOK s) K.num (by decide) g).1 (deep+1) q' m q1 (by omega);rw[e5]at hp5 hp fi;have hp:res=.bad a w:=hp;obtain⟨f1,f2⟩:=fi;obtain⟨t,v,j,m3,rfl,tv5,j5,m5,h5,k5⟩:=hp5;have tv4:=TVs.kp k5 _ _ tv4;have k5:=k5.trans k4;obtain⟨o5,o6,x5,ev⟩:=tv5.agg;generalize hy:strs t.keys=y5 at ev;generalize t.k=tk at ev;generalize t.s=ts at ev;subst ev;refine goW ?_;have hxy:xs.length<=4096:=by omega
   refine r_appDK h5 (R.length+1) (by simp) (by trivial) rfl rfl rfl (by simp;omega) (by simp;omega) (by decide) (by decide) rfl ?_;intro o7 S7 h7 k7;rw[List.set_cons_succ,List.set_append_right _ _ (nR _),Nat.sub_self]at h7;have tv7:=TVs.kp k7 _ _ (TVs.snoc acc xs tv4 tv5);have k7:Kp S7 S:=Kp.trans k7 k5;have hz2:xs++(List.replicate 1 (AV.agg [AV.int IntKind.i64 0,AV.str [],AV.sl 1 { tok:=none,off:=0,cap:=some 0,isNil:=true } [],AV.sl 4 { tok:=none,off:=0,cap:=some 0,isNil:=true } []])).set 0 (AV.agg [AV.int IntKind.i64 tk,AV.str ts,AV.sl 1 o5 y5,AV.sl 4 o6 x5])=xs++[AV.agg [.int .i64 tk,.str ts,.sl 1 o5 y5,.sl 4 o6 x5]]:=rfl;rw[hz2]at h7;generalize hz:xs++[AV.agg [.int .i64 tk,.str ts,.sl 1 o5 y5,.sl 4 o6 x5]]=zs at hz2 h7 tv7;refine goW ?_;rw[hz2];refine call_rule (by rfl) (hm _ _ _ _ _ (K.bla h7 j5) ?_);rintro r S8 ⟨rfl,h8,k8⟩;refine goW ?_;exact⟨0,.inr ⟨_,m3,a,w,_,o7,zs,h8,TVs.kp k8 _ _ tv7,k8.trans k7,rowE_le j5,m5,by omega,hp,rfl,rfl⟩,by omega⟩
  | ok t e m2 =>
   have fi:=(reads_fine (quoOK s) K.num (by decide) g).1 (deep+1) q' m q1 (by omega);rw[e5]at hp5 hp fi;have hp:res=if isC s (rowE blaC s e) 44=true then listP s g deep (rowE blaC s e+1) m2 (acc++[t]) else if isC s (rowE blaC s e) 93=true then .ok (.mk 6 [] [] (acc++[t])) (rowE blaC s e+1) m2 else errP s (rowE blaC s e):=hp
   obtain⟨f1,f2,f3,f4,f5⟩:=fi;obtain⟨v,rfl,tv5,h5,k5⟩:=hp5;have tv4:=TVs.kp k5 _ _ tv4;have k5:=k5.trans k4;obtain⟨o5,o6,x5,ev⟩:=tv5.agg;generalize hy:strs t.keys=y5 at ev;generalize t.k=tk at ev;generalize t.s=ts at ev;subst ev;refine goW ?_;have hxy:xs.length<=4096:=by omega
   refine r_appDK h5 (R.length+1) (by simp) (by trivial) rfl rfl rfl (by simp;omega) (by simp;omega) (by decide) (by decide) rfl ?_;intro o7 S7 h7 k7;rw[List.set_cons_succ,List.set_append_right _ _ (nR _),Nat.sub_self]at h7;have tv7:=TVs.kp k7 _ _ (TVs.snoc acc xs tv4 tv5);have k7:Kp S7 S:=Kp.trans k7 k5;have hz2:xs++(List.replicate 1 (AV.agg [AV.int IntKind.i64 0,AV.str [],AV.sl 1 { tok:=none,off:=0,cap:=some 0,isNil:=true } [],AV.sl 4 { tok:=none,off:=0,cap:=some 0,isNil:=true } []])).set 0 (AV.agg [AV.int IntKind.i64 tk,AV.str ts,AV.sl 1 o5 y5,AV.sl 4 o6 x5])=xs++[AV.agg [.int .i64 tk,.str ts,.sl 1 o5 y5,.sl 4 o6 x5]]:=rfl;rw[hz2]at h7;generalize hz:xs++[AV.agg [.int .i64 tk,.str ts,.sl 1 o5 y5,.sl 4 o6 x5]]=zs at hz2 h7 tv7;refine goW ?_;rw[hz2];refine call_rule (by rfl) (hm _ _ _ _ _ (K.bla h7 f2) ?_);rintro r S8 ⟨rfl,h8,k8⟩;have d1:=rowE_ge (p:=blaC) (s:=s) (i:=e);have d2:=rowE_le (p:=blaC) (s:=s) (i:=e) f2;refine goW ?_;refine⟨g+1,.inl ⟨g,rowE blaC s e,m2,acc++[t],o7,zs,h8,TVs.kp k8 _ _ tv7,k8.trans k7,d2,f4,by simp only[lA,lC,lN];omega,rowE_idem,?_,by omega,by omega,rfl,rfl⟩,by omega⟩;rw[hp];unfold topL;by_cases x1:isC s (rowE blaC s e) 44=true
   ·rw[if_pos x1,if_neg (isC_ne x1 (by decide)),if_neg (by simp),if_pos x1]
   ·rw[if_neg x1];by_cases x2:isC s (rowE blaC s e) 93=true
    ·rw[if_pos x2,if_pos x2]
    ·rw[if_neg x2,if_neg x2,if_neg (by simp),if_neg x1]
 ·rw[if_neg z5]at h6 hp;rw[errP_eq]at hp;have hw:((errW s q:Nat):Int)≠0:=by unfold errW;split<;>decide
  refine goW ?_;refine call_rule (by rfl) (hm _ _ _ _ _ (K.bla h6 hq) ?_);rintro r S7 ⟨rfl,h4,k4⟩;have tv4:=TVs.kp k4 _ _ tv6;have k4:=k4.trans k6;have q1:=rowE_le (p:=blaC) (s:=s) (i:=q) hq;refine goW ?_;rw[wr64 (by omega) (by omega),show (deep:Int)+1=((deep+1:Nat):Int) by omega];refine call_ruleD (by rfl) (hm _ _ _ _ _ (hX h4 hw) ?_);rintro r S5 ⟨v,rfl,tv5,rfl⟩;have h5:=h4;have k5:=k4;obtain⟨o5,o6,x5,ev⟩:=tv5.agg;generalize hy:strs (PT.mk 0 [] [] []).keys=y5 at ev;generalize (PT.mk 0 [] [] []).k=tk at ev;generalize (PT.mk 0 [] [] []).s=ts at ev;subst ev;refine goW ?_;have hxy:xs.length<=4096:=by omega
  refine r_appDK h5 (R.length+1) (by simp) (by trivial) rfl rfl rfl (by simp;omega) (by simp;omega) (by decide) (by decide) rfl ?_;intro o7 S7 h7 k7;rw[List.set_cons_succ,List.set_append_right _ _ (nR _),Nat.sub_self]at h7;have tv7:=TVs.kp k7 _ _ (TVs.snoc acc xs tv4 tv5);have k7:Kp S7 S:=Kp.trans k7 k5;have hz2:xs++(List.replicate 1 (AV.agg [AV.int IntKind.i64 0,AV.str [],AV.sl 1 { tok:=none,off:=0,cap:=some 0,isNil:=true } [],AV.sl 4 { tok:=none,off:=0,cap:=some 0,isNil:=true } []])).set 0 (AV.agg [AV.int IntKind.i64 tk,AV.str ts,AV.sl 1 o5 y5,AV.sl 4 o6 x5])=xs++[AV.agg [.int .i64 tk,.str ts,.sl 1 o5 y5,.sl 4 o6 x5]]:=rfl;rw[hz2]at h7;generalize hz:xs++[AV.agg [.int .i64 tk,.str ts,.sl 1 o5 y5,.sl 4 o6 x5]]=zs at hz2 h7 tv7;refine goW ?_;rw[hz2];refine call_rule (by rfl) (hm _ _ _ _ _ (K.bla h7 q1) ?_);rintro r S8 ⟨rfl,h8,k8⟩;refine goW ?_;exact⟨0,.inr ⟨_,m,_,_,_,o7,zs,h8,TVs.kp k8 _ _ tv7,k8.trans k7,rowE_le q1,hm2,hw,hp,rfl,rfl⟩,by omega⟩
end

set_option maxHeartbeats 64000000
def topR (s:List UInt8)(g deep q m:Nat)(keys:List (List UInt8))(kids:List PT):PR:=if isC s q 125=true then .ok (.mk 7 [] keys kids) (q+1) m else if kids=[] then recP s g deep q m keys kids else if isC s q 44=true then recP s g deep (q+1) m keys kids else errP s q
abbrev E_rr (rid deep id:Nat)(o1 o2:SI)(keys:List (List UInt8))(xs:List AV):Env:=[(0,.val (.ptr rid 0)),(1,.val (.int .i64 deep)),(4,.box zTc),(5,.box [.int .i64 7,.str [],.sl 1 o1 (strs keys),.sl 4 o2 xs]),(6,.val (.map id))]
abbrev R_rr (id:Nat)(l:List (List UInt8×Int))(o1 o2:SI)(keys:List (List UInt8))(xs:List AV):List Rs:=[Rs.mp id (mpE l),Rs.gr 9 o1 (strs keys),Rs.gr 25 o2 xs]
def InvR (rid deep id f:Nat)(s:List UInt8)(R:List Rs)(S:St)(res:PR)(x:Nat)(env:Env)(S':St):Prop:=(∃g q m keys kids o1 o2 xs,Hs S' (rdB rid s q 0 0 m::(R++R_rr id (ones keys) o1 o2 keys xs))/\TVs S' kids xs/\Kp S' S/\q<=s.length/\m<=4096/\keys.length<=m/\kids.length<=m/\rowE blaC s q=q/\res=topR s g deep q m keys kids/\2*(s.length-q)+2<=g/\g<=f/\env=E_rr rid deep id o1 o2 keys xs/\x=g+1) \/
  (∃j m a w keys kids l o1 o2 xs,Hs S' (rdB rid s j (a:Nat) w m::(R++R_rr id l o1 o2 keys xs))/\TVs S' kids xs/\Kp S' S/\j<=s.length/\m<=4096/\w≠0/\res=.bad a w/\env=E_rr rid deep id o1 o2 keys xs/\x=0)
section
variable {gt:GT}{C:CallT}
theorem rRecB_wp (hm:MonoC C){s:List UInt8}(K:RfCs C s){f g:Nat}(hV:∀g,g<f->ValC C s g)(hX:ValX C s){S S4:St}{R:List Rs}{rid id q m deep:Nat}{tl:Env}{keys:List (List UInt8)}{kids:List PT}{o1 o2:SI}{xs:List AV}{res:PR}{Q:Ex->Env->St->Prop}
  (h4:Hs S4 (rdB rid s q 0 0 m::(R++R_rr id (ones keys) o1 o2 keys xs))) (tv4:TVs S4 kids xs) (k4:Kp S4 S) (q1:q<=s.length) (hm2:m<=4096) (ha:keys.length<=m) (ha2:kids.length<=m) (hd:deep<=64) (hg:2*(s.length-q)+1<=g) (hgf:g<f)
  (hp:res=if isC s q 34=true then
   match quoB (s.drop q) with
   |.bad a w=>.bad (q+a) w
   |.ok k m' =>
    if k∈keys then .bad q 15
    else if isC s (rowE blaC s (q+m')) 58=true then
     match treeP s g (deep+1) (rowE blaC s (rowE blaC s (q+m')+1)) m with
     |.bad a w=>.bad a w
     |.ok t e n' =>
      if isC s (rowE blaC s e) 44=true then recP s g deep (rowE blaC s e+1) n' (keys++[k]) (kids++[t])
      else if isC s (rowE blaC s e) 125=true then .ok (.mk 7 [] (keys++[k]) (kids++[t])) (rowE blaC s e+1) n'
      else errP s (rowE blaC s e)
    else errP s (rowE blaC s (q+m'))
  else errP s q)
  (hQr:∀{env:Env} {S':St},(∃v,result gt env S' (F121).res=some v/\RfT rid s R S res (.ret v) S')->Q .ret env S')
  (hQn:∀{x:Nat} {env:Env} {S':St},x<g+2->InvR rid deep id f s R S res x env S'->Q .normal env S') :
  wpD gt C (subC (F121).body [1,1,1,1,1,0,0,1,0,0,1,0,1]) ((0,.val (.ptr rid 0))::(1,.val (.int .i64 deep))::(4,.box zTc)::(5,.box [.int .i64 7,.str [],.sl 1 o1 (strs keys),.sl 4 o2 xs])::(6,.val (.map id))::tl) S4 Q:=by
 have hl:=K.len;have hxl:=TVs.len kids xs tv4;refine goW ?_;refine step_ruleO (sx_r1 h4 rfl) (goW ?_);refine call_rule (by rfl) (hm _ _ _ _ _ (K.is 34 h4) ?_);rintro r S5 ⟨rfl,rfl⟩;cases y1:isC s q 34 with
 | false =>
  rw[y1,if_neg Bool.false_ne_true,errP_eq]at hp;refine goW ?_;refine call_rule (by rfl) (hm _ _ _ _ _ (K.f0 q 13 h4) ?_);rintro r S6 ⟨rfl,h6,k6⟩;rw[(fai13 s q1).1,(fai13 s q1).2]at h6;refine goW ?_;apply hQr
  refine⟨_,rfl,?_⟩;rw[hp];refine⟨.mk 7 [] keys kids,_,q,m,rfl,?_,q1,hm2,Hs.init1 h6,(k6.trans k4)⟩;simp only[TV];exact⟨o1,o2,xs,rfl,(h6.ok (R.length+2) _ get_rc1).rd,(h6.ok (R.length+3) _ get_rc2).rd,(TVs.kp k6 _ _ tv4)⟩
 | true =>
 rw[y1,if_pos rfl]at hp;refine goW ?_;refine call_rule (by rfl) (hm _ _ _ _ _ (K.quo h4 y1) ?_);intro r S6 hp6;unfold QuoP at hp6;cases e6:quoB (s.drop q) with
 | bad u w =>
  have hw0:=(quoOK s).2 q u w q1 e6;rw[e6]at hp6 hp;have hp:res=.bad (q+u) w:=hp;obtain⟨rfl,h6,k6⟩:=hp6;have hw:(w:Int)≠0:=by omega
  have tv6:=TVs.kp k6 _ _ tv4;have k6:=k6.trans k4;refine goW ?_;refine call_rule (by rfl) (hm _ _ _ _ _ (K.ok h6) ?_);rintro r S7 ⟨rfl,rfl⟩;rw[eqI_false hw];refine goW ?_;refine st_runP (r_mupK h6 (R.length+1) get_rc0 rfl rfl rfl) trivial ?_;rintro S8 ⟨h8,k8⟩;rw[set_rc0]at h8;have tv8:=TVs.kp k8 _ _ tv6;have k8:=Kp.trans k8 k6;refine goW ?_;refine call_rule (by rfl) (hm _ _ _ _ _ (K.bla h8 q1) ?_);rintro r S9 ⟨rfl,h9,k9⟩;have tv9:=TVs.kp k9 _ _ tv8;have k9:=Kp.trans k9 k8;have q2:=rowE_le (p:=blaC) (s:=s) (i:=q) q1;refine goW ?_;refine call_rule (by rfl) (hm _ _ _ _ _ (K.take 58 h9 q2) ?_);rintro r S10 ⟨rfl,k10,h10⟩;rw[if_neg hw]at h10;have tv10:=TVs.kp k10 _ _ tv9;have k10:=Kp.trans k10 k9;refine goW ?_;refine call_rule (by rfl) (hm _ _ _ _ _ (K.bla h10 q2) ?_);rintro r S11 ⟨rfl,h11,k11⟩;have tv11:=TVs.kp k11 _ _ tv10;have k11:=Kp.trans k11 k10;have jle:=rowE_le (p:=blaC) (s:=s) q2;refine goW ?_;obtain⟨h12,hsrc⟩:=h11.bldT 9 1;have hsl:(strs keys).length<=4096:=by rw[strs_length];omega
  refine r_appK h12 (R.length+2) get_rc1 trivial rfl rfl (hsrc _ _ _) (by simp;omega) (by simp;omega) (by decide) (by decide) rfl ?_;intro o3 S13 h13 k13;rw[set_rc1]at h13;have tv13:=TVs.kp (S':=S13) (S:=S11) k13 _ _ tv11;have k13:Kp S13 S:=Kp.trans (S':=S11) k13 k11;have hk2:strs keys++(List.replicate 1 (AV.str [])).set 0 (AV.str [])=strs (keys++[[]]):=by simp[strs]
  rw[hk2]at h13 ⊢;refine goW ?_;rw[wr64 (by omega) (by omega),show (deep:Int)+1=((deep+1:Nat):Int) by omega];refine call_ruleD (by rfl) (hm _ _ _ _ _ (hX h13 hw) ?_);rintro r S14 ⟨v,rfl,tvv,rfl⟩;have h14:=h13;have tv14:=tv13;have k14:=k13;obtain⟨o5,o6,x5,ev⟩:=tvv.agg;generalize hy:strs (PT.mk 0 [] [] []).keys=y5 at ev;generalize (PT.mk 0 [] [] []).k=tk at ev;generalize (PT.mk 0 [] [] []).s=ts at ev;subst ev;refine goW ?_;have hxy:xs.length<=4096:=by omega
  refine r_appDK h14 (R.length+3) get_rc2 (by trivial) rfl rfl rfl (by simp;omega) (by simp;omega) (by decide) (by decide) rfl ?_;intro o7 S15 h15 k15;rw[set_rc2]at h15;have tv15:=TVs.kp k15 _ _ (TVs.snoc kids xs tv14 tvv);have k15:Kp S15 S:=Kp.trans k15 k14;have hz2:xs++(List.replicate 1 (AV.agg [AV.int IntKind.i64 0,AV.str [],AV.sl 1 { tok:=none,off:=0,cap:=some 0,isNil:=true } [],AV.sl 4 { tok:=none,off:=0,cap:=some 0,isNil:=true } []])).set 0 (AV.agg [AV.int IntKind.i64 tk,AV.str ts,AV.sl 1 o5 y5,AV.sl 4 o6 x5])=xs++[AV.agg [.int .i64 tk,.str ts,.sl 1 o5 y5,.sl 4 o6 x5]]:=rfl;rw[hz2]at h15;generalize hz:xs++[AV.agg [.int .i64 tk,.str ts,.sl 1 o5 y5,.sl 4 o6 x5]]=zs at hz2 h15 tv15;refine goW ?_;rw[hz2];refine call_rule (by rfl) (hm _ _ _ _ _ (K.bla h15 jle) ?_);rintro r S16 ⟨rfl,h16,k16⟩;refine goW ?_;exact hQn (Nat.succ_pos _) (.inr ⟨_,m,_,_,keys++[[]],kids++[.mk 0 [] [] []],_,o3,o7,zs,h16,TVs.kp k16 _ _ tv15,k16.trans k15,rowE_le jle,hm2,hw,hp,rfl,rfl⟩)
 | ok key u =>
 rw[e6]at hp6 hp;obtain⟨u1,u2⟩:=(quoOK s).1 q key u e6;obtain⟨rfl,h6,k6⟩:=hp6;have tv6:=TVs.kp k6 _ _ tv4;have k6:=k6.trans k4;refine goW ?_;refine call_rule (by rfl) (hm _ _ _ _ _ (K.ok h6) ?_);rintro r S7 ⟨rfl,rfl⟩;refine goW ?_;refine step_ruleG rfl (sx_lkpS h6 (R.length+1) get_rc0 rfl rfl) ?_;by_cases hs:key∈keys
 ·obtain⟨jj,hjj⟩:=posS_ones hs;rw[hjj];have hp:res=.bad q 15:=by rw[hp];exact if_pos hs
  refine goW ?_;refine call_rule (by rfl) (hm _ _ _ _ _ (K.f0 q 15 h6) ?_);rintro r S8 ⟨rfl,h8,k8⟩;have f1:faiA s 15 q=q:=by unfold faiA;rw[if_neg (by omega)]
  have f2:faiW s 15 q=15:=by unfold faiW;rw[if_neg (by omega)]
  rw[f1,f2]at h8;refine goW ?_;apply hQr
  refine⟨_,rfl,?_⟩;rw[hp];refine⟨.mk 7 [] keys kids,_,q+u,m,rfl,?_,u2,hm2,Hs.init1 h8,(k8.trans k6)⟩;simp only[TV];exact⟨o1,o2,xs,rfl,(h8.ok (R.length+2) _ get_rc1).rd,(h8.ok (R.length+3) _ get_rc2).rd,(TVs.kp k8 _ _ tv6)⟩
 have hjj:=posS_no hs;rw[hjj];have hp:res=(if isC s (rowE blaC s (q+u)) 58=true then
    match treeP s g (deep+1) (rowE blaC s (rowE blaC s (q+u)+1)) m with
    |.bad a w=>.bad a w
    |.ok t e n' =>
     if isC s (rowE blaC s e) 44=true then recP s g deep (rowE blaC s e+1) n' (keys++[key]) (kids++[t])
     else if isC s (rowE blaC s e) 125=true then .ok (.mk 7 [] (keys++[key]) (kids++[t])) (rowE blaC s e+1) n'
     else errP s (rowE blaC s e)
   else errP s (rowE blaC s (q+u))):=by rw[hp];exact if_neg hs
 refine goW ?_;refine st_runP (r_mupK h6 (R.length+1) get_rc0 rfl rfl rfl) trivial ?_;rintro S8 ⟨h8,k8⟩;rw[set_rc0]at h8;have hput:putS key 1 (ones keys)=ones (keys++[key]):=by unfold putS;rw[hjj];simp[ones]
 rw[hput]at h8;have tv8:=TVs.kp k8 _ _ tv6;have k8:=Kp.trans k8 k6;refine goW ?_;refine call_rule (by rfl) (hm _ _ _ _ _ (K.bla h8 u2) ?_);rintro r S9 ⟨rfl,h9,k9⟩;have tv9:=TVs.kp k9 _ _ tv8;have k9:=Kp.trans k9 k8;have d1:=rowE_ge (p:=blaC) (s:=s) (i:=q+u);have d2:=rowE_le (p:=blaC) (s:=s) (i:=q+u) u2;generalize rowE blaC s (q+u)=b at hp h9 d1 d2;refine goW ?_;refine call_rule (by rfl) (hm _ _ _ _ _ (K.take 58 h9 d2) ?_);rintro r S10 ⟨rfl,k10,h10⟩;rw[if_pos rfl]at h10;have tv10:=TVs.kp k10 _ _ tv9;have k10:=Kp.trans k10 k9;by_cases y3:isC s b 58=true
 case neg =>
  rw[if_neg y3]at h10 hp;rw[errP_eq]at hp;have hw:((errW s b:Nat):Int)≠0:=by unfold errW;split<;>decide
  refine goW ?_;refine call_rule (by rfl) (hm _ _ _ _ _ (K.bla h10 d2) ?_);rintro r S11 ⟨rfl,h11,k11⟩;have tv11:=TVs.kp k11 _ _ tv10;have k11:=Kp.trans k11 k10;have jle:=rowE_le (p:=blaC) (s:=s) d2;refine goW ?_;obtain⟨h12,hsrc⟩:=h11.bldT 9 1;have hsl:(strs keys).length<=4096:=by rw[strs_length];omega
  refine r_appK h12 (R.length+2) get_rc1 trivial rfl rfl (hsrc _ _ _) (by simp;omega) (by simp;omega) (by decide) (by decide) rfl ?_;intro o3 S13 h13 k13;rw[set_rc1]at h13;have tv13:=TVs.kp (S':=S13) (S:=S11) k13 _ _ tv11;have k13:Kp S13 S:=Kp.trans (S':=S11) k13 k11;have hk2:strs keys++(List.replicate 1 (AV.str [])).set 0 (AV.str key)=strs (keys++[key]):=by simp[strs]
  rw[hk2]at h13 ⊢;refine goW ?_;rw[wr64 (by omega) (by omega),show (deep:Int)+1=((deep+1:Nat):Int) by omega];refine call_ruleD (by rfl) (hm _ _ _ _ _ (hX h13 hw) ?_);rintro r S14 ⟨v,rfl,tvv,rfl⟩;have h14:=h13;have tv14:=tv13;have k14:=k13;obtain⟨o5,o6,x5,ev⟩:=tvv.agg;generalize hy:strs (PT.mk 0 [] [] []).keys=y5 at ev;generalize (PT.mk 0 [] [] []).k=tk at ev;generalize (PT.mk 0 [] [] []).s=ts at ev;subst ev;refine goW ?_;have hxy:xs.length<=4096:=by omega
  refine r_appDK h14 (R.length+3) get_rc2 (by trivial) rfl rfl rfl (by simp;omega) (by simp;omega) (by decide) (by decide) rfl ?_;intro o7 S15 h15 k15;rw[set_rc2]at h15;have tv15:=TVs.kp k15 _ _ (TVs.snoc kids xs tv14 tvv);have k15:Kp S15 S:=Kp.trans k15 k14;have hz2:xs++(List.replicate 1 (AV.agg [AV.int IntKind.i64 0,AV.str [],AV.sl 1 { tok:=none,off:=0,cap:=some 0,isNil:=true } [],AV.sl 4 { tok:=none,off:=0,cap:=some 0,isNil:=true } []])).set 0 (AV.agg [AV.int IntKind.i64 tk,AV.str ts,AV.sl 1 o5 y5,AV.sl 4 o6 x5])=xs++[AV.agg [.int .i64 tk,.str ts,.sl 1 o5 y5,.sl 4 o6 x5]]:=rfl;rw[hz2]at h15;generalize hz:xs++[AV.agg [.int .i64 tk,.str ts,.sl 1 o5 y5,.sl 4 o6 x5]]=zs at hz2 h15 tv15;refine goW ?_;rw[hz2];refine call_rule (by rfl) (hm _ _ _ _ _ (K.bla h15 jle) ?_);rintro r S16 ⟨rfl,h16,k16⟩;refine goW ?_;exact hQn (Nat.succ_pos _) (.inr ⟨_,m,_,_,keys++[key],kids++[.mk 0 [] [] []],_,o3,o7,zs,h16,TVs.kp k16 _ _ tv15,k16.trans k15,rowE_le jle,hm2,hw,hp,rfl,rfl⟩)
 have y4:=isC_lt y3;rw[if_pos y3]at h10 hp;refine goW ?_;refine call_rule (by rfl) (hm _ _ _ _ _ (K.bla h10 y4) ?_);rintro r S11 ⟨rfl,h11,k11⟩;have tv11:=TVs.kp k11 _ _ tv10;have k11:=Kp.trans k11 k10;have d3:=rowE_ge (p:=blaC) (s:=s) (i:=b+1);have d4:=rowE_le (p:=blaC) (s:=s) (i:=b+1) y4;generalize rowE blaC s (b+1)=z at hp h11 d3 d4;refine goW ?_;obtain⟨h12,hsrc⟩:=h11.bldT 9 1;have hsl:(strs keys).length<=4096:=by rw[strs_length];omega
 refine r_appK h12 (R.length+2) get_rc1 trivial rfl rfl (hsrc _ _ _) (by simp;omega) (by simp;omega) (by decide) (by decide) rfl ?_;intro o3 S13 h13 k13;rw[set_rc1]at h13;have tv13:=TVs.kp (S':=S13) (S:=S11) k13 _ _ tv11;have k13:Kp S13 S:=Kp.trans (S':=S11) k13 k11;have hk2:strs keys++(List.replicate 1 (AV.str [])).set 0 (AV.str key)=strs (keys++[key]):=by simp[strs]
 rw[hk2]at h13 ⊢;refine goW ?_;rw[wr64 (by omega) (by omega),show (deep:Int)+1=((deep+1:Nat):Int) by omega];refine call_ruleD (by rfl) (hm _ _ _ _ _ (hV g (by omega) h13 d4 hm2 (by omega) (by omega)) ?_);intro r S14 hp14;have fi:=(reads_fine (quoOK s) K.num (by decide) g).1 (deep+1) z m d4 (by omega);cases e14:treeP s g (deep+1) z m with
 | bad a w =>
  rw[e14]at hp14 hp fi;have hp:res=.bad a w:=hp;obtain⟨f1,f2⟩:=fi;obtain⟨t,v,j,m3,rfl,tvv,j5,m5,h14,k14⟩:=hp14;have tv14:=TVs.kp k14 _ _ tv13;have k14:=k14.trans k13;obtain⟨o5,o6,x5,ev⟩:=tvv.agg;generalize hy:strs t.keys=y5 at ev;generalize t.k=tk at ev;generalize t.s=ts at ev;subst ev;refine goW ?_;have hxy:xs.length<=4096:=by omega
  refine r_appDK h14 (R.length+3) get_rc2 (by trivial) rfl rfl rfl (by simp;omega) (by simp;omega) (by decide) (by decide) rfl ?_;intro o7 S15 h15 k15;rw[set_rc2]at h15;have tv15:=TVs.kp k15 _ _ (TVs.snoc kids xs tv14 tvv);have k15:Kp S15 S:=Kp.trans k15 k14;have hz2:xs++(List.replicate 1 (AV.agg [AV.int IntKind.i64 0,AV.str [],AV.sl 1 { tok:=none,off:=0,cap:=some 0,isNil:=true } [],AV.sl 4 { tok:=none,off:=0,cap:=some 0,isNil:=true } []])).set 0 (AV.agg [AV.int IntKind.i64 tk,AV.str ts,AV.sl 1 o5 y5,AV.sl 4 o6 x5])=xs++[AV.agg [.int .i64 tk,.str ts,.sl 1 o5 y5,.sl 4 o6 x5]]:=rfl;rw[hz2]at h15;generalize hz:xs++[AV.agg [.int .i64 tk,.str ts,.sl 1 o5 y5,.sl 4 o6 x5]]=zs at hz2 h15 tv15;refine goW ?_;rw[hz2];refine call_rule (by rfl) (hm _ _ _ _ _ (K.bla h15 j5) ?_);rintro r S16 ⟨rfl,h16,k16⟩;refine goW ?_;exact hQn (Nat.succ_pos _) (.inr ⟨_,m3,a,w,keys++[key],kids++[t],_,o3,o7,zs,h16,TVs.kp k16 _ _ tv15,k16.trans k15,rowE_le j5,m5,by omega,hp,rfl,rfl⟩)
 | ok t e m2 =>
  rw[e14]at hp14 hp fi;have hp:res=if isC s (rowE blaC s e) 44=true then recP s g deep (rowE blaC s e+1) m2 (keys++[key]) (kids++[t]) else if isC s (rowE blaC s e) 125=true then .ok (.mk 7 [] (keys++[key]) (kids++[t])) (rowE blaC s e+1) m2 else errP s (rowE blaC s e):=hp
  obtain⟨f1,f2,f3,f4,f5⟩:=fi;obtain⟨v,rfl,tvv,h14,k14⟩:=hp14;have tv14:=TVs.kp k14 _ _ tv13;have k14:=k14.trans k13;obtain⟨o5,o6,x5,ev⟩:=tvv.agg;generalize hy:strs t.keys=y5 at ev;generalize t.k=tk at ev;generalize t.s=ts at ev;subst ev;refine goW ?_;have hxy:xs.length<=4096:=by omega
  refine r_appDK h14 (R.length+3) get_rc2 (by trivial) rfl rfl rfl (by simp;omega) (by simp;omega) (by decide) (by decide) rfl ?_;intro o7 S15 h15 k15;rw[set_rc2]at h15;have tv15:=TVs.kp k15 _ _ (TVs.snoc kids xs tv14 tvv);have k15:Kp S15 S:=Kp.trans k15 k14;have hz2:xs++(List.replicate 1 (AV.agg [AV.int IntKind.i64 0,AV.str [],AV.sl 1 { tok:=none,off:=0,cap:=some 0,isNil:=true } [],AV.sl 4 { tok:=none,off:=0,cap:=some 0,isNil:=true } []])).set 0 (AV.agg [AV.int IntKind.i64 tk,AV.str ts,AV.sl 1 o5 y5,AV.sl 4 o6 x5])=xs++[AV.agg [.int .i64 tk,.str ts,.sl 1 o5 y5,.sl 4 o6 x5]]:=rfl;rw[hz2]at h15;generalize hz:xs++[AV.agg [.int .i64 tk,.str ts,.sl 1 o5 y5,.sl 4 o6 x5]]=zs at hz2 h15 tv15;refine goW ?_;rw[hz2];refine call_rule (by rfl) (hm _ _ _ _ _ (K.bla h15 f2) ?_);rintro r S16 ⟨rfl,h16,k16⟩;have d5:=rowE_ge (p:=blaC) (s:=s) (i:=e);have d6:=rowE_le (p:=blaC) (s:=s) (i:=e) f2;refine goW ?_;refine hQn (x:=g+1) (by omega) (.inl ⟨g,rowE blaC s e,m2,keys++[key],kids++[t],o3,o7,zs,h16,TVs.kp k16 _ _ tv15,k16.trans k15,d6,f4,by simp only[lA,lC,lN];omega,by simp only[lA,lC,lN];omega,rowE_idem,?_,by omega,by omega,rfl,rfl⟩);rw[hp];unfold topR;by_cases x1:isC s (rowE blaC s e) 44=true
  ·rw[if_pos x1,if_neg (isC_ne x1 (by decide)),if_neg (by simp),if_pos x1]
  ·rw[if_neg x1];by_cases x2:isC s (rowE blaC s e) 125=true
   ·rw[if_pos x2,if_pos x2]
   ·rw[if_neg x2,if_neg x2,if_neg (by simp),if_neg x1]
end

set_option maxHeartbeats 64000000
section
variable {gt:GT}{C:CallT}
theorem rRec_wp (hm:MonoC C){s:List UInt8}(K:RfCs C s){f:Nat}(hV:∀g,g<f->ValC C s g)(hX:ValX C s){S:St}{R:List Rs}{rid i n deep:Nat}(h:Hs S (rdB rid s i 0 0 n::R))(hi:isC s i 123=true)(hn:n<=4096)(hd:deep<=64)(hf:2*(s.length-(i+1))+2<=f) :
  wpF gt C F121 [.ptr rid 0,.int .i64 deep] S (RfT rid s R S (rcP s f deep i n)):=by
 have hlt:=isC_lt hi;have hl:=K.len;have hM:=hs_mkmS h;have kM:Kp { S with nm:=S.nm+1,maps:=(S.nm,[])::S.maps } S:=⟨rfl,rfl⟩
 refine⟨rfl,?_⟩;refine goW ?_;have hM:Hs { S with nm:=S.nm+1,maps:=(S.nm,[])::S.maps } (rdB rid s i 0 0 n::(R++[Rs.mp S.nm []])):=hM;generalize S.nm=id at hM ⊢;refine call_rule (by rfl) (hm _ _ _ _ _ (K.take 123 hM (by omega)) ?_);rintro r S1 ⟨rfl,k1,h1⟩;rw[if_pos rfl,if_pos hi]at h1;have k1:=Kp.trans k1 kM;refine goW ?_;refine call_rule (by rfl) (hm _ _ _ _ _ (K.bla h1 hlt) ?_);rintro r S2 ⟨rfl,h2,k2⟩;have k2:=k2.trans k1;have b1:=rowE_ge (p:=blaC) (s:=s) (i:=i+1);have b2:=rowE_le (p:=blaC) (s:=s) (i:=i+1) hlt;have hA:Hs S2 (rdB rid s (rowE blaC s (i+1)) 0 0 n::(R++R_rr id (ones []) ⟨none,0,some 0,true⟩ ⟨none,0,some 0,true⟩ [] [])):=by
  have:=(h2.addNil 9 true).addNil 25 true;simpa[R_rr,mpE,ones,strs] using this
 have hB:rcP s f deep i n=topR s f deep (rowE blaC s (i+1)) n [] []:=by
  unfold rcP topR;rw[if_pos (show ([]:List PT)=[] from rfl),recP_bl]
 generalize rcP s f deep i n=res at hB ⊢;refine goW ?_;refine loop_rule hm (α:=Nat) (InvR rid deep id f s R S res) (λx=>x) ?_ (a:=f+1) (.inl ⟨f,_,n,[],[],⟨none,0,some 0,true⟩,⟨none,0,some 0,true⟩,[],hA,(by simp only[TVs]),k2,b2,hn,Nat.zero_le _,Nat.zero_le _,rowE_idem,hB,by omega,nR _,rfl,rfl⟩);rintro x env S3 (⟨g,q,m,keys,kids,o1,o2,xs,h3,tv3,k3,hq,hm2,ha,ha2,hqb,hp,hg,hgf,rfl,rfl⟩ | ⟨j,m,a,w,keys,kids,l,o1,o2,xs,h3,tv3,k3,hj,hm2,hw,hp,rfl,rfl⟩)
 case inr =>
  refine goW ?_;refine call_rule (by rfl) (hm _ _ _ _ _ (K.ok h3) ?_);rintro r S4 ⟨rfl,rfl⟩;rw[eqI_false hw];refine goW ?_;refine call_rule (by rfl) (hm _ _ _ _ _ (K.take 125 h3 hj) ?_);rintro r S5 ⟨rfl,k5,h5⟩;rw[if_neg hw]at h5;refine goW ?_;refine⟨_,rfl,?_⟩;rw[hp];refine⟨.mk 7 [] keys kids,_,j,m,rfl,?_,hj,hm2,Hs.init1 h5,k5.trans k3⟩;simp only[TV];exact⟨o1,o2,xs,rfl,(h5.ok (R.length+2) _ get_rc1).rd,(h5.ok (R.length+3) _ get_rc2).rd,TVs.kp k5 _ _ tv3⟩
 cases g with
 | zero=>omega
 | succ g =>
 have hxl:=TVs.len kids xs tv3;refine goW ?_;refine call_rule (by rfl) (hm _ _ _ _ _ (K.ok h3) ?_);rintro r S4 ⟨rfl,rfl⟩;refine goW ?_;refine call_rule (by rfl) (hm _ _ _ _ _ (K.is 125 h3) ?_);rintro r S5 ⟨rfl,rfl⟩;unfold topR at hp;cases z1:isC s q 125 with
 | true =>
  have z2:=isC_lt z1;rw[z1,if_pos rfl]at hp;refine goW ?_;refine call_rule (by rfl) (hm _ _ _ _ _ (K.take 125 h3 hq) ?_);rintro r S6 ⟨rfl,k6,h6⟩;rw[if_pos rfl,if_pos z1]at h6;refine goW ?_;refine⟨_,rfl,?_⟩;rw[hp];refine⟨_,rfl,?_,Hs.init1 h6,k6.trans k3⟩;simp only[TV];exact⟨o1,o2,xs,rfl,(h6.ok (R.length+2) _ get_rc1).rd,(h6.ok (R.length+3) _ get_rc2).rd,TVs.kp k6 _ _ tv3⟩
 | false =>
 rw[z1,if_neg Bool.false_ne_true]at hp;have inv:∀{x:Nat} {env:Env} {S':St},x<g+2->InvR rid deep id f s R S res x env S'->∃b,InvR rid deep id f s R S res b (keepE env [0,1,4,5,6]) S'/\b<g+1+1:=by
  intro x env S' hx hI;have e:keepE env [0,1,4,5,6]=env:=by
   rcases hI with⟨_,_,_,_,_,_,_,_,_,_,_,_,_,_,_,_,_,_,_,rfl,_⟩ | ⟨_,_,_,_,_,_,_,_,_,_,_,_,_,_,_,_,_,rfl,_⟩
   ·with_unfolding_all rfl
   ·with_unfolding_all rfl
  rw[e];exact⟨x,hI,hx⟩
 refine goW ?_;by_cases z3:kids=[]
 ·rw[dF (show ¬(xs.length:Int) > 0 by rw[hxl,z3];simp)];rw[if_pos z3,recP,hqb]at hp;refine rRecB_wp hm K hV hX h3 tv3 k3 hq hm2 ha ha2 hd (by omega) (by omega) hp (λh=>h) (λhx hI=>inv hx hI)
 have z4:0<kids.length:=List.length_pos_iff.2 z3;rw[dT (show (xs.length:Int) > 0 by rw[hxl];omega)];rw[if_neg z3]at hp;refine goW ?_;refine call_rule (by rfl) (hm _ _ _ _ _ (K.take 44 h3 hq) ?_);rintro r S6 ⟨rfl,k6,h6⟩;rw[if_pos rfl]at h6;have tv6:=TVs.kp k6 _ _ tv3;have k6:=k6.trans k3;by_cases z5:isC s q 44=true
 ·have z6:=isC_lt z5;rw[if_pos z5]at h6 hp;rw[recP]at hp;refine goW ?_;refine call_rule (by rfl) (hm _ _ _ _ _ (K.bla h6 z6) ?_);rintro r S7 ⟨rfl,h4,k4⟩;have tv4:=TVs.kp k4 _ _ tv6;have k4:=k4.trans k6;have q0:=rowE_ge (p:=blaC) (s:=s) (i:=q+1);have q1:=rowE_le (p:=blaC) (s:=s) (i:=q+1) z6;generalize rowE blaC s (q+1)=q' at hp h4 q0 q1;refine goJ ?_;refine rRecB_wp hm K hV hX h4 tv4 k4 q1 hm2 ha ha2 hd (by omega) (by omega) hp (λh=>h) (λhx hI=>inv hx hI)
 ·rw[if_neg z5]at h6 hp;rw[errP_eq]at hp;have hw:((errW s q:Nat):Int)≠0:=by unfold errW;split<;>decide
  refine goW ?_;refine call_rule (by rfl) (hm _ _ _ _ _ (K.bla h6 hq) ?_);rintro r S7 ⟨rfl,h4,k4⟩;have tv4:=TVs.kp k4 _ _ tv6;have k4:=k4.trans k6;have q1:=rowE_le (p:=blaC) (s:=s) (i:=q) hq;refine goW ?_;refine step_ruleO (sx_r1 h4 rfl) (goW ?_);refine call_rule (by rfl) (hm _ _ _ _ _ (K.is 34 h4) ?_);rintro r S8 ⟨rfl,rfl⟩;rw[eqI_false hw,Bool.false_and];refine goW ?_;refine call_rule (by rfl) (hm _ _ _ _ _ (K.fx _ _ h4 hw) ?_);rintro r S9 ⟨rfl,rfl⟩;refine goW ?_;refine⟨_,rfl,?_⟩;rw[hp];refine⟨.mk 7 [] keys kids,_,_,m,rfl,?_,q1,hm2,Hs.init1 h4,k4⟩;simp only[TV];exact⟨o1,o2,xs,rfl,(h4.ok (R.length+2) _ get_rc1).rd,(h4.ok (R.length+3) _ get_rc2).rd,tv4⟩
end

set_option maxHeartbeats 64000000
def BegP (s:List UInt8)(R:List Rs)(S:St):Res->St->Prop:=λr S'=>∃rid,r=.ret (.ptr rid 0)/\Hs S' (rdB rid s 0 (utfA s).1 (utfA s).2 0::R)/\Kp S' S
def ParR (s:List UInt8)(R:List Rs)(S:St):Res->St->Prop:=λr S'=>match fullP s with
 |.ok t _ _=>∃v,r=.ret (.tup [v,.agg [.int .i64 0,.int .i64 0]])/\TV S' t v/\Hs S' R/\Kp S' S
 |.bad a w=>∃v,r=.ret (.tup [v,.agg [.int .i64 a,.int .i64 w]])/\TV S' (.mk 0 [] [] []) v/\Hs S' R/\Kp S' S
theorem Hs.tl {S:St}{a:Rs}{R:List Rs}(h:Hs S (a::R)):Hs S R:=h.less (λx=>x+1) (λ_ _ _ _ e=>by omega) λj hj=>by rw[List.getElem?_cons_succ]
section
variable {gt:GT}{C:CallT}
theorem rBegin_wp (hm:MonoC C){s:List UInt8}(hl:s.length<=65536){S:St}{R:List Rs}(h:Hs S R)
  (hru:∀{S:St} {R:List Rs},Hs S R->C 108 [.str s] S (RunesQ s R S)) :
  wpF gt C F69 [.str s,.bool true] S (BegP s R S):=by
 have hN:=(h.newBox 103 [.str s,.int .i64 0,.int .i64 0,.int .i64 0,.int .i64 0,.bool true]).perm List.perm_append_comm;have kZ:Kp { S with nb:=S.nb+1,boxes:=(S.nb,some (103,[.str s,.int .i64 0,.int .i64 0,.int .i64 0,.int .i64 0,.bool true]))::S.boxes } S:=⟨rfl,rfl⟩
 refine⟨rfl,?_⟩;refine goW ?_;rw[dF (show ¬(s.length:Int) > 65536 by omega)];refine goW ?_;refine call_rule (by rfl) (hm _ _ _ _ _ (hru hN) ?_);rintro r S2 ⟨x,rfl,h2,k2⟩;have k2:=Kp.trans k2 kZ;refine goW ?_;refine r_r2 (i:=0) (n:=0) (a:=0) (w:=0) h2 rfl rfl λS3 h3 k3=>?_;refine goW ?_;exact⟨_,rfl,_,rfl,h3,k3.trans k2⟩
theorem rParse_wp (hm:MonoC C){s:List UInt8}(K:RfCs C s){S:St}{R:List Rs}(h:Hs S R)
  (hbe:∀{S:St} {R:List Rs},Hs S R->C 69 [.str s,.bool true] S (BegP s R S))
  (hV:ValC C s (2*s.length+2))
  (hX:∀{S:St} {R:List Rs} {rid i n:Nat} {a w deep:Int},Hs S (rdB rid s i a w n::R)->w≠0->C 71 [.ptr rid 0,.int .i64 deep] S λr S'=>∃v,r=.ret v/\TV S' (.mk 0 [] [] []) v/\S'=S) :
  wpF gt C F40 [.str s,.bool true] S (ParR s R S):=by
 have hl:=K.len;have hf:fullP s=if badI s 0<0 then parseP s else .bad (badI s 0).toNat 10:=rfl
 have hu:utfA s=if badI s 0<0 then (0,0) else (badI s 0,10):=rfl
 have b1:=rowE_le (p:=blaC) (s:=s) (i:=0) (Nat.zero_le _);unfold ParR;generalize fullP s=res at hf ⊢;refine⟨rfl,?_⟩;refine goW ?_;refine call_rule (by rfl) (hm _ _ _ _ _ (hbe h) ?_);rintro r S2 ⟨rid,rfl,h2,k2⟩;refine goW ?_;refine call_rule (by rfl) (hm _ _ _ _ _ (K.bla h2 (Nat.zero_le _)) ?_);rintro r S3 ⟨rfl,h3,k3⟩;have k3:=k3.trans k2;by_cases c:badI s 0<0
 case neg =>
  rw[if_neg c]at hf hu;rw[hu]at h3;obtain⟨b,hb⟩:=Int.eq_ofNat_of_zero_le (show 0<=badI s 0 by omega);rw[hb]at h3;have h3:Hs S3 (rdB rid s (rowE blaC s 0) (b:Int) 10 0::R):=h3;rw[hb,Int.toNat_natCast]at hf;refine goW ?_;refine call_rule (by rfl) (hm _ _ _ _ _ (hX h3 (show (10:Int)≠0 by decide)) ?_);rintro r S4 ⟨v,rfl,tv,rfl⟩;obtain⟨o5,o6,x5,ev⟩:=tv.agg;simp only[PT.k,PT.s,PT.keys]at ev;generalize hy:strs []=y5 at ev;subst ev;refine goW ?_;refine call_rule (by rfl) (hm _ _ _ _ _ (K.bla h3 b1) ?_);rintro r S5 ⟨rfl,h5,k5⟩;have k5:=k5.trans k3;refine goW ?_;refine call_rule (by rfl) (hm _ _ _ _ _ (K.ok h5) ?_);rintro r S6 ⟨rfl,rfl⟩;refine goW ?_;refine call_rule (by rfl) (hm _ _ _ _ _ (K.ok h5) ?_);rintro r S7 ⟨rfl,rfl⟩;refine goW ?_;refine step_ruleDO rfl rfl (sx_ldBs (h5.ok 0 _ rfl).2 rfl rfl) (goW ?_);refine⟨_,rfl,?_⟩;rw[hf];exact⟨_,rfl,TV.leaf rfl rfl rfl,h5.tl,k5⟩
 rw[if_pos c]at hf hu;rw[hu]at h3;have h3:Hs S3 (rdB rid s (rowE blaC s 0) 0 0 0::R):=h3;have hf:res=match treeP s (2*s.length+2) 1 (rowE blaC s 0) 0 with
  |.bad a w=>.bad a w
  |.ok t e m=>if rowE blaC s e<s.length then .bad (rowE blaC s e) 13 else .ok t (rowE blaC s e) m:=hf
 have fi:=(reads_fine (quoOK s) K.num (by decide) (2*s.length+2)).1 1 (rowE blaC s 0) 0 b1 (by omega);refine goW ?_;refine call_rule (by rfl) (hm _ _ _ _ _ (hV (deep:=1) h3 b1 (by omega) (by omega) (by omega)) ?_);intro r S4 hp4;cases e4:treeP s (2*s.length+2) 1 (rowE blaC s 0) 0 with
 | bad a w =>
  rw[e4]at hp4 hf fi;have hf:res=.bad a w:=hf;obtain⟨f1,f2⟩:=fi;obtain⟨t,v,j,m,rfl,tv,j4,m4,h4,k4⟩:=hp4;have k4:=k4.trans k3;obtain⟨o5,o6,x5,ev⟩:=tv.agg;generalize hy:strs t.keys=y5 at ev;generalize t.k=tk at ev;generalize t.s=ts at ev;subst ev;refine goW ?_;refine call_rule (by rfl) (hm _ _ _ _ _ (K.bla h4 j4) ?_);rintro r S5 ⟨rfl,h5,k5⟩;have k5:=k5.trans k4;refine goW ?_;refine call_rule (by rfl) (hm _ _ _ _ _ (K.ok h5) ?_);rintro r S6 ⟨rfl,rfl⟩;rw[eqI_false (show ¬w=0 by omega)];refine goW ?_;refine call_rule (by rfl) (hm _ _ _ _ _ (K.ok h5) ?_);rintro r S7 ⟨rfl,rfl⟩;rw[eqI_false (show ¬w=0 by omega)];refine goW ?_;refine step_ruleDO rfl rfl (sx_ldBs (h5.ok 0 _ rfl).2 rfl rfl) (goW ?_);refine⟨_,rfl,?_⟩;rw[hf];exact⟨_,rfl,TV.leaf rfl rfl rfl,h5.tl,k5⟩
 | ok t e m =>
  rw[e4]at hp4 hf fi;have hf:res=if rowE blaC s e<s.length then .bad (rowE blaC s e) 13 else .ok t (rowE blaC s e) m:=hf
  obtain⟨f1,f2,f3,f4,f5⟩:=fi;obtain⟨v,rfl,tv,h4,k4⟩:=hp4;have k4:=k4.trans k3;obtain⟨o5,o6,x5,ev⟩:=tv.agg;generalize hy:strs t.keys=y5 at ev;generalize t.k=tk at ev;generalize t.s=ts at ev;subst ev;refine goW ?_;refine call_rule (by rfl) (hm _ _ _ _ _ (K.bla h4 f2) ?_);rintro r S5 ⟨rfl,h5,k5⟩;have tv5:=TV.kp k5 _ _ tv;have k5:=k5.trans k4;have d2:=rowE_le (p:=blaC) (s:=s) (i:=e) f2;refine goW ?_;refine call_rule (by rfl) (hm _ _ _ _ _ (K.ok h5) ?_);rintro r S6 ⟨rfl,rfl⟩;refine goW ?_;refine step_ruleG rfl (sx_r1 h5 rfl) (goW ?_);by_cases z:rowE blaC s e<s.length
  ·rw[dT (show ((rowE blaC s e:Nat):Int)<(s.length:Nat) by omega)];rw[if_pos z]at hf;refine goW ?_;refine step_ruleO (sx_r1 h5 rfl) (goW ?_);refine call_rule (by rfl) (hm _ _ _ _ _ (K.f0 (rowE blaC s e) 13 h5) ?_);rintro r S7 ⟨rfl,h7,k7⟩;have f1:faiA s 13 (rowE blaC s e)=(rowE blaC s e:Nat):=by unfold faiA;rw[if_neg (by omega)]
   have f2:faiW s 13 (rowE blaC s e)=13:=by unfold faiW;rw[if_neg (by omega)]
   rw[f1,f2]at h7;refine goW ?_;refine call_rule (by rfl) (hm _ _ _ _ _ (K.ok h7) ?_);rintro r S8 ⟨rfl,rfl⟩;refine goW ?_;refine step_ruleDO rfl rfl (sx_ldBs (h7.ok 0 _ rfl).2 rfl rfl) (goW ?_);refine⟨_,rfl,?_⟩;rw[hf];exact⟨_,rfl,TV.leaf rfl rfl rfl,h7.tl,k7.trans k5⟩
  ·rw[dF (show ¬((rowE blaC s e:Nat):Int)<(s.length:Nat) by omega)];rw[if_neg z]at hf;refine goW ?_;refine call_rule (by rfl) (hm _ _ _ _ _ (K.ok h5) ?_);rintro r S7 ⟨rfl,rfl⟩;refine goW ?_;refine⟨_,rfl,?_⟩;rw[hf];exact⟨_,rfl,tv5,h5.tl,k5⟩
end

theorem sx_rem {gt:GT}{d:Option Nat}{env:Env}{S:St}{x y:DOpd}{a b:Int}(hx:opd env x=some (.int .i64 a))(hy:opd env y=some (.int .i64 b))(h:¬b=0):stepO gt d env S (.bin .rem none x y)=.done (putV d (.int .i64 (a.tmod b)) env) S:=by
 simp only[stepO,hx,hy,binV,binI,eqI_false h,if_true,cond_false,SR.val]
section
variable {gt:GT}{C:CallT}
set_option maxHeartbeats 2000000 in
theorem wthin_wp {a:Int}{n:Nat}(h:0<n)(hn:n<4611686018427387904):wpF gt C F39 [.int .i64 a,.int .i64 0,.int .i64 (((n:Nat):Int)-1)] St.init (Ret (.int .i64 (a % n))):=by
 have t1:=Int.tmod_lt_of_pos a (show (0:Int)<n by omega);have t2:-(n:Int)<a.tmod n:=by have:=Int.lt_tmod_of_pos a (show (0:Int)<n by omega);omega
 refine⟨rfl,?_⟩;refine goW ?_;rw[wr64 (n:=((n:Nat):Int)-1-0) (by omega) (by omega),wr64 (n:=((n:Nat):Int)-1-0+1) (by omega) (by omega),show ((n:Nat):Int)-1-0+1=n by omega];refine step_ruleO (sx_rem rfl rfl (by omega)) (goW ?_);have em:=Int.emod_nonneg a (show (n:Int)≠0 by omega);have em2:=Int.emod_lt_of_pos a (show (0:Int)<n by omega);have key:a % n=if a.tmod n<0 then a.tmod n+n else a.tmod n:=by
  rw[Int.tmod_eq_emod];have e:((n:Int).natAbs:Int)=n:=by omega
  split<;>split<;>omega
 by_cases c:a.tmod n<0
 ·rw[dT c];rw[if_pos c]at key;refine goW ?_;rw[wr64 (n:=a.tmod n+(((n:Nat):Int)-1)) (by omega) (by omega),wr64 (n:=a.tmod n+(((n:Nat):Int)-1)-0) (by omega) (by omega),wr64 (n:=a.tmod n+(((n:Nat):Int)-1)-0+1) (by omega) (by omega),wr64 (n:=0+(a.tmod n+(((n:Nat):Int)-1)-0+1)) (by omega) (by omega)];refine⟨_,rfl,?_⟩;rw[show 0+(a.tmod n+(((n:Nat):Int)-1)-0+1)=a % n by omega];exact Ret.sta trivial
 ·rw[dF c];rw[if_neg c]at key;refine goW ?_;rw[wr64 (n:=0+a.tmod n) (by omega) (by omega)];refine⟨_,rfl,?_⟩;rw[show 0+a.tmod n=a % n by omega];exact Ret.sta trivial
end

set_option maxHeartbeats 64000000
theorem parseP_fine {s:List UInt8}(hnn:∀t:List UInt8,0<=(normB t).2):match parseP s with |.ok t _ _=>t.ok |.bad _ w=>0<w:=by
 have b1:=rowE_le (p:=blaC) (s:=s) (i:=0) (Nat.zero_le _);have fi:=(reads_fine (quoOK s) hnn (by decide) (2*s.length+2)).1 1 (rowE blaC s 0) 0 b1 (by omega);unfold parseP;cases e:treeP s (2*s.length+2) 1 (rowE blaC s 0) 0 with
 | bad a w=>rw[e]at fi;exact fi.2
 | ok t j m =>
  rw[e]at fi;simp only;by_cases z:rowE blaC s j<s.length
  ·rw[if_pos z];exact(by decide:(0:Int)<13)
  ·rw[if_neg z];exact fi.2.2.2.2
theorem fullP_fine {s:List UInt8}(hnn:∀t:List UInt8,0<=(normB t).2):match fullP s with |.ok t _ _=>t.ok |.bad _ w=>0<w:=by
 unfold fullP;by_cases c:badI s 0<0
 ·rw[if_pos c];exact parseP_fine hnn
 ·rw[if_neg c];exact(by decide:(0:Int)<10)
section
variable {gt:GT}{C:CallT}
theorem parsesR_wp (hm:MonoC C){s:List UInt8}{at_:Int}{tl:Env}(hl:s.length<=4000)(hnn:∀t:List UInt8,0<=(normB t).2)
  (hwi:∀(a:Int) (n:Nat),0<n->n<4611686018427387904->PF C 39 [.int .i64 a,.int .i64 0,.int .i64 (((n:Nat):Int)-1)] (.int .i64 (a % n)))
  (hpa:∀{S:St} {R:List Rs} {y:List UInt8},y.length<=4000->Hs S R->C 19 [.str y] S (PaP y R S))
  (hra:∀{S:St} {R:List Rs} {y:List UInt8},y.length<=4000->Hs S R->C 40 [.str y,.bool true] S (ParR y R S))
  (hr0:∀{S:St} {R:List Rs},Hs S R->C 41 [.nilif,.agg [.int .i64 0,.int .i64 0]] S (IsRef R S))
  (hr1:∀{S:St} {R:List Rs} {id k a w:Nat},Hs S R->R[k]? = some (wrB id a w)->w≠0->C 41 [.ifc 105 (.ptr id 0),.agg [.int .i64 a,.int .i64 w]] S (IsRef R S))
  (hpl:∀{S:St} {t u:PT} {v w:AV},t.ok->TV S t v->TV S u w->C 32 [v,w] S λr S'=>r=.ret (.bool (eqT t u))/\S'=S)
  (hrun:PF C 3 [] (.bool true)) :
  wpD gt C (subC (F9).body [1,1]) ((0,.val (.str s))::(1,.val (.int .i64 at_))::tl) St.init (bodyQ gt (F9).res (Ret (.bool true))):=by
 have hw:=hwi at_ (s.length+1) (by omega) (by omega);rw[show (((s.length+1:Nat):Int)-1)=(s.length:Int) by omega]at hw;have m1:0<=at_ % ((s.length+1:Nat):Int):=Int.emod_nonneg _ (by omega);have m2:at_ % ((s.length+1:Nat):Int)<((s.length+1:Nat):Int):=Int.emod_lt_of_pos _ (by omega);generalize at_ % ((s.length+1:Nat):Int)=mz at hw m1 m2;obtain⟨mm,rfl⟩:=Int.eq_ofNat_of_zero_le m1;refine goW ?_;refine call_pf hm (by rfl) hw (goW ?_);refine step_ruleO (sx_slHiS (h:=mm) rfl rfl (by omega)) ?_;obtain⟨l,hll⟩:∃l:List (List UInt8),l=[s,s.take mm]:=⟨_,rfl⟩
 have hL:∀y∈l,y.length<=4000:=λy hy=>by
  rw[hll]at hy;rcases List.mem_cons.1 hy with rfl | hy
  ·exact hl
  ·rw[List.mem_singleton.1 hy,lT];omega
 have h0:=(Hs.init.bldT 9 2).1;have hln:(strs l).length=2:=by rw[hll];rfl
 have hln2:l.length=2:=by rw[hll];rfl
 refine goW ?_;refine loop_rule hm (α:=Nat) (λi env S'=>i<=2/\Hs S' []/\Kp S' St.init/\env=[(5,.val (.sl 1 ⟨some (0,0),0,some 2,false⟩ (strs l))),(6,.val (.int .i64 i))]) (λi=>2-i) ?_ (a:=0) ⟨by omega,h0,⟨rfl,rfl⟩,by rw[hll];rfl⟩;rintro i env S1 ⟨hi,h1,k1,rfl⟩;refine goW ?_;by_cases c:(i:Int)<(strs l).length
 case neg =>
  rw[dF c];refine goW ?_;refine call_pf hm (by rfl) hrun (goW ?_);exact⟨_,rfl,Ret.sta trivial⟩
 rw[dT c];have hik:i<l.length:=by omega
 have hge:(strs l)[i]? = some (.str l[i]):=by simp[strs,hik]
 have hyl:=hL l[i] (List.getElem_mem hik);generalize l[i]=y at hge hyl;have he:∀{S':St},Kp S' St.init->elems S' false 1 ⟨some (0,0),0,some 2,false⟩ (strs l)=some (strs l):=λh=>by unfold elems;rw[rd_kp h];rfl
 refine goW ?_;refine step_ruleO (sx_ia (k:=i) rfl rfl (by omega)) (goW ?_);refine step_ruleO (sx_ldEl (agg:=false) rfl (he k1) hge rfl) (goW ?_);refine call_rule (by rfl) (hm _ _ _ _ _ (hpa hyl h1) ?_);intro r S2 hp2;have ff:=fullP_fine (s:=y) hnn;unfold PaP at hp2;cases e2:fullP y with
 | ok t j m =>
  rw[e2]at hp2 ff;obtain⟨v,rfl,tv,h2,k2⟩:=hp2;have k2:=k2.trans k1;obtain⟨o5,o6,x5,ev⟩:=tv.agg;have ev0:=ev;generalize hy:strs t.keys=y5 at ev;generalize hk5:t.k=tk at ev;generalize hs5:t.s=ts at ev;subst ev;refine goW ?_;refine step_ruleO (sx_ia (k:=i) rfl rfl (by omega)) (goW ?_);refine step_ruleO (sx_ldEl (agg:=false) rfl (he k2) hge rfl) (goW ?_);refine call_rule (by rfl) (hm _ _ _ _ _ (hra hyl h2) ?_);intro r S3 hp3;unfold ParR at hp3;rw[e2]at hp3;obtain⟨v3,rfl,tv3,h3,k3⟩:=hp3;have tv:=TV.kp k3 _ _ tv;have k3:=k3.trans k2;obtain⟨o7,o8,x7,ev⟩:=tv3.agg;rw[hy,hk5,hs5]at ev;subst ev;refine goW ?_;refine call_rule (by rfl) (hm _ _ _ _ _ (hr0 h3) ?_);rintro r S4 ⟨rfl,h4,k4⟩;have tv:=TV.kp k4 _ _ tv;have tv3:=TV.kp k4 _ _ tv3;have k4:=k4.trans k3;refine goW ?_;refine call_rule (by rfl) (hm _ _ _ _ _ (hpl ff tv tv3) ?_);rintro r S5 ⟨rfl,rfl⟩;rw[eqT_true rfl];refine goW ?_;rw[wr64 (by omega) (by omega),show (i:Int)+1=((i+1:Nat):Int) by omega];exact⟨i+1,⟨by omega,h4,k4,rfl⟩,by omega⟩
 | bad a w =>
  rw[e2]at hp2 ff;have ff:0<w:=ff;obtain⟨wn,rfl⟩:=Int.eq_ofNat_of_zero_le (show 0<=w by omega);obtain⟨v,id,rfl,tv,h2,k2⟩:=hp2;rw[Int.toNat_natCast]at h2;have k2:=k2.trans k1;obtain⟨o5,o6,x5,ev⟩:=tv.agg;simp only[PT.k,PT.s,PT.keys]at ev;generalize hy:strs []=y5 at ev;subst ev;refine goW ?_;refine step_ruleO (sx_ia (k:=i) rfl rfl (by omega)) (goW ?_);refine step_ruleO (sx_ldEl (agg:=false) rfl (he k2) hge rfl) (goW ?_);refine call_rule (by rfl) (hm _ _ _ _ _ (hra hyl h2) ?_);intro r S3 hp3;unfold ParR at hp3;rw[e2]at hp3;obtain⟨v3,rfl,tv3,h3,k3⟩:=hp3;have tv:=TV.kp k3 _ _ tv;have k3:=k3.trans k2;obtain⟨o7,o8,x7,ev⟩:=tv3.agg;simp only[PT.k,PT.s,PT.keys]at ev;rw[hy]at ev;subst ev;refine goW ?_;refine call_rule (by rfl) (hm _ _ _ _ _ (hr1 (k:=0) h3 rfl (by omega)) ?_);rintro r S4 ⟨rfl,h4,k4⟩;have tv:=TV.kp k4 _ _ tv;have tv3:=TV.kp k4 _ _ tv3;have k4:=k4.trans k3;refine goW ?_;refine call_rule (by rfl) (hm _ _ _ _ _ (hpl ok_leaf tv tv3) ?_);rintro r S5 ⟨rfl,rfl⟩;rw[eqT_true rfl];refine goW ?_;rw[wr64 (by omega) (by omega),show (i:Int)+1=((i+1:Nat):Int) by omega];exact⟨i+1,⟨by omega,h4.tl,k4,rfl⟩,by omega⟩
theorem parses_wp (hm:MonoC C){s:List UInt8}{at_:Int}(hnn:∀t:List UInt8,0<=(normB t).2)
  (hwi:∀(a:Int) (n:Nat),0<n->n<4611686018427387904->PF C 39 [.int .i64 a,.int .i64 0,.int .i64 (((n:Nat):Int)-1)] (.int .i64 (a % n)))
  (hpa:∀{S:St} {R:List Rs} {y:List UInt8},y.length<=4000->Hs S R->C 19 [.str y] S (PaP y R S))
  (hra:∀{S:St} {R:List Rs} {y:List UInt8},y.length<=4000->Hs S R->C 40 [.str y,.bool true] S (ParR y R S))
  (hr0:∀{S:St} {R:List Rs},Hs S R->C 41 [.nilif,.agg [.int .i64 0,.int .i64 0]] S (IsRef R S))
  (hr1:∀{S:St} {R:List Rs} {id k a w:Nat},Hs S R->R[k]? = some (wrB id a w)->w≠0->C 41 [.ifc 105 (.ptr id 0),.agg [.int .i64 a,.int .i64 w]] S (IsRef R S))
  (hpl:∀{S:St} {t u:PT} {v w:AV},t.ok->TV S t v->TV S u w->C 32 [v,w] S λr S'=>r=.ret (.bool (eqT t u))/\S'=S)
  (hrun:PF C 3 [] (.bool true)) :
  wpF gt C F9 [.str s,.int .i64 at_] St.init (Ret (.bool true)):=by
 refine⟨rfl,?_⟩;refine goW ?_;by_cases c:s.length<=4000
 ·rw[dF (show ¬(s.length:Int) > 4000 by omega)];exact parsesR_wp hm c hnn hwi hpa hra hr0 hr1 hpl hrun
 ·rw[dT (show (s.length:Int) > 4000 by omega)];refine goW ?_;refine step_ruleO (sx_slHiS (h:=4000) rfl rfl (by omega)) ?_;refine goJ ?_;exact parsesR_wp hm (by rw[lT];omega) hnn hwi hpa hra hr0 hr1 hpl hrun
end
end Go.Dn
