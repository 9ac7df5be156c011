/- The reader of trees and the reference's, as contracts, each by its code. The row of 'emendlaw3.TreeParses': what is read, and that the call returns true. -/
import Derived.Test.YthgidapmofcloaaGreatDoorTie
import Derived.Test.YthgidapmofcloaaGreatDoorCards
import Derived.ProofKit
import Derived.LaidMore
import Derived.OpenShut
import Derived.Carry
import Derived.Stop.Joined
import Derived.Lay
import Derived.SevenTiedAt
import Derived.Deep.DeepHandedRow
import Derived.Deep.DeepWitnessRowRef
import Derived.Test.YthgidapmofcloaaGreatDoorQo
set_option linter.unusedSimpArgs false
set_option linter.unusedVariables false
namespace Go.Proofs.YthgidapmofcloaaGreatDoor.Fn
open Go.ChangeShapes Go.WideShapes Go.ChangeAt Go.RowKit Go.Dn
theorem ai {f : FuncId} {fn : Func} {n : Note} {F : DF} {us : List AV} {S : St} {Q : Res → St → Prop} (hf : Tryz.prog.funcs[f]? = some fn) (hp : prepF Tryz.prog n fn = some F) (hw : wpF gtT A F us S Q) (hn : (fn.name == "runtime.NumGoroutine") = false := by kernel_rfl) : A f us S Q := AC_intro Tryz.checked.mixed hf hn hp hw
theorem norm_nn (t:List UInt8):0<=(normB t).2:=by
 unfold normB;by_cases h:(splitB t).2=0
 ·rw[if_pos h];unfold joinB
  (repeat' split)<;>simp
 ·rw[if_neg h];unfold splitB;cases cutB t with
  | none=>show (0:Int)<=12;decide
  | some q =>
   obtain⟨neg,w,p,e⟩:=q;simp only;by_cases h1:1000<t.length
   ·rw[if_pos h1];show (0:Int)<=2;decide
   ·rw[if_neg h1];cases expB e with
    | none=>show (0:Int)<=5;decide
    | some x=>simp only;split<;>exact Int.le_refl 0
theorem valueH (b:UInt8):PF A 234 [.int .u8 b.toNat] (.int .i64 (hexV b)) :=
 pf Tryz.func234 (by kernel_rfl) C1.F234_ok (s1 trivial) value_wp
theorem hexU4 (s:List UInt8):PF A 217 [.str s,.int .i64 4] (.int .i64 (numH s 4 0)) :=
 pf Tryz.func217 (by kernel_rfl) C1.F217_ok (s2 trivial trivial) (hex_wp (k:=4) hm valueH (by decide))
theorem hpU (s p:List UInt8)(h:s.length<4611686018427387904):PF A 185 [.str s,.str p] (.bool (decide (p <+: s))) :=
 pf Tryz.func185 (by kernel_rfl) C1.F185_ok (s2 trivial trivial) (hasPreW_wp hm (pf Tryz.func204 (by kernel_rfl) C1.F204_ok (s2 trivial trivial) (hasPreU_wp (by omega))))
theorem pairU (c:UInt8)(r:List UInt8)(h:r.length<4611686018427387903):PF A 199 [.str (c::r)] (encEsc (pairB r)) :=
 pf Tryz.func199 (by kernel_rfl) C1.F199_ok (s1 trivial) (pair_wp hm hexU4 (λs h=>hpU s _ h) h)
theorem escapedU (s:List UInt8)(h:s.length<4611686018427387904):PF A 174 [.str s] (encEsc (escU s)) :=
 pf Tryz.func174 (by kernel_rfl) C1.F174_ok (s1 trivial) (escaped_wp hm pairU h)
theorem putU {S:St}{R:List Rs}{i c:Nat}{o:SI}{xs:List AV}(hR:Hs S R)(hi:R[i]? = some (.gr 5 o xs))(hc:c<1114112)(hl:xs.length<1099511627776) :
  A 175 [.sl 1 o xs,.int .i64 c] S λr S'=>∃o',r=.ret (.sl 1 o' (xs++ofBytes (encC c)))/\Hs S' (R.set i (.gr 5 o' (xs++ofBytes (encC c))))/\S'.mv=S.mv/\S'.dl=S.dl :=
 ai Tryz.func175 C1.F175_ok (putU_wp hm hR hi hc hl λS id k ty hk hb =>
  ai Tryz.func200 C1.F200_ok (tail_wp hb hc hk))
theorem wrongU {S:St}{R:List Rs}(at_ why:Nat)(hR:Hs S R):A 85 [.int .i64 at_,.int .i64 why] S λr S'=>∃id,r=.ret (.ptr id 0)/\Hs S' (R++[wrB id at_ why])/\S'.mv=S.mv/\S'.dl=S.dl :=
 ai Tryz.func85 C1.F85_ok (wrong_wp hR)
theorem quotedU {S:St}{R:List Rs}(s:List UInt8)(hR:Hs S R)(hl:s.length<=16777216):A 139 [.str s] S (QPost (quoB s) R S) :=
 ai Tryz.func139 C1.F139_ok (quoted_wp hm hR hl escapedU putU wrongU)
theorem hexRU (b:UInt8):PF A 219 [.int .u8 b.toNat] (.int .i64 (hexV b)) :=
 pf Tryz.func219 (by kernel_rfl) C1.F219_ok (s1 trivial) hexRU_wp
theorem simpleR (b:UInt8):PF A 202 [.int .u8 b.toNat] (.int .i64 (simB b)) :=
 pf Tryz.func202 (by kernel_rfl) C1.F202_ok (s1 trivial) simple_wp
theorem numberR (s:List UInt8)(p:Nat)(hp:p<4611686018427387904)(hl:s.length<4611686018427387904):PF A 203 [.str s,.int .i64 p,.int .i64 4] (.int .i64 (numH (s.drop p) 4 0)) :=
 pf Tryz.func203 (by kernel_rfl) C1.F203_ok (s3 trivial trivial trivial) (number_wp (k:=4) hm hexRU (by decide) hp hl)
theorem byteR (c:Nat)(hc:c<1114112):PF A 183 [.int .i64 c] (.str (encC c)) :=
 pf Tryz.func183 (by kernel_rfl) C1.F183_ok (s1 trivial) (byte_wp hc)
theorem escapeR (s:List UInt8)(hl:s.length<2305843009213693952)(p:Nat)(hp:p<s.length):PF A 182 [.str s,.int .i64 p] (encEscR (escU (s.drop (p+1)))) :=
 pf Tryz.func182 (by kernel_rfl) C1.F182_ok (s2 trivial trivial) (escape_wp hm simpleR numberR hp hl)
theorem withinR (s:List UInt8)(hl:s.length<=16777216)(p:Nat)(hp:p<s.length):PF A 154 [.str s,.int .i64 p] (encW (quoL (s.drop (p+1)) (p+1) [])) :=
 pf Tryz.func154 (by kernel_rfl) C1.F154_ok (s2 trivial trivial) (within1_wp hm hl hp (escapeR s (by omega)) byteR)
theorem digT (b:UInt8):PF A 141 [.int .u8 b.toNat] (.bool (digC b)) :=
 pf Tryz.func141 (by kernel_rfl) C1.F141_ok (s1 trivial) digT_wp
theorem letT (b:UInt8):PF A 142 [.int .u8 b.toNat] (.bool (letC b)) :=
 pf Tryz.func142 (by kernel_rfl) C1.F142_ok (s1 trivial) letT_wp
theorem blaT (b:UInt8):PF A 89 [.int .u8 b.toNat] (.bool (blaC b)) :=
 pf Tryz.func89 (by kernel_rfl) C1.F89_ok (s1 trivial) blaT_wp
theorem inNum (b:UInt8):PF A 96 [.int .u8 b.toNat] (.bool (numC b)) :=
 pf Tryz.func96 (by kernel_rfl) C1.F96_ok (s1 trivial) (inNum_wp hm digT letT)
theorem timT (b:UInt8):PF A 95 [.int .u8 b.toNat] (.bool (timC b)) :=
 pf Tryz.func95 (by kernel_rfl) C1.F95_ok (s1 trivial) (timT_wp hm inNum)
theorem isP {s:List UInt8}{S:St}{R:List Rs}{pid i n:Nat}(c:Nat)(h:Hs S (plB pid s i n::R)):A 90 [.ptr pid 0,.int .u8 c] S λr S'=>r=.ret (.bool (isC s i c))/\S'=S :=
 ai Tryz.func90 C1.F90_ok (is_wp h)
theorem failP {S:St}{R:List Rs}(at_ why:Nat)(h:Hs S R):A 97 [.int .i64 at_,.int .i64 why] S (PanP R at_ why S) :=
 ai Tryz.func97 C1.F97_ok (fail_wp hm h wrongU)
theorem badP {s:List UInt8}{S:St}{R:List Rs}{pid i n:Nat}(h:Hs S (plB pid s i n::R)):A 55 [.ptr pid 0] S (PanP (plB pid s i n::R) (errA s i) (errW s i) S) :=
 ai Tryz.func55 C1.F55_ok (badP_wp hm h failP)
theorem rowP {s:List UInt8}(hl:s.length<=16777216){f:FuncId}{p:UInt8->Bool}(hp:∀b:UInt8,PF A f [.int .u8 b.toNat] (.bool (p b))){S:St}{R:List Rs}{pid i n:Nat}(h:Hs S (plB pid s i n::R))(hi:i<=s.length):A 88 [.ptr pid 0,.fn f [] []] S (RowP p pid s i n R S) :=
 ai Tryz.func88 C1.F88_ok (rowT_wp hm h hi hl hp)
theorem rdCs {s:List UInt8}(hl:s.length<=16777216):RdCs A s where
 bla h hi:=ai Tryz.func53 C1.F53_ok (blanks_wp hm h hi λh hi=>rowP hl blaT h hi)
 is c h:=isP c h
 bad h:=badP h
 must c h:=ai Tryz.func140 C1.F140_ok (must_wp hm h hl (λh=>isP _ h) λh=>badP h)
 node h hn:=ai Tryz.func91 C1.F91_ok (node_wp hm h hn failP)
 fail a w h:=failP a w h
 quo {S R pid i n} h hi:=ai Tryz.func92 C1.F92_ok (quotedP_wp hm h hi hl (λs h hs=>quotedU s h hs) (λt k e=>((quoOK s).1 i t k e).2) (λa w e=>((quoOK s).2 i a w hi e).1) failP)
 rowT h hi:=rowP hl timT h hi
 sca h hi:=ai Tryz.func98 C1.F98_ok (scalar_wp hm h hi hl digT letT (λh hi=>rowP hl inNum h hi) (λh hi=>rowP hl letT h hi) (λt h=>normal t (by omega)) norm_nn (λh=>badP h) failP)
 time t h:=Fn.time t (by omega)
 len:=hl
 num:=norm_nn
theorem treeC {s:List UInt8}(hl:s.length<=16777216):∀f,TreeC A s f:=by
 intro f
 induction f using Nat.strongRecOn with
 | _ f ih =>
  cases f with
  | zero=>intro S R pid i n deep _ _ _ _ h;omega
  | succ f =>
   intro S R pid i n deep h hi hn hd hf;exact ai Tryz.func54 C1.F54_ok (tree_wp hm (rdCs hl)
    (λh hi hn hd hf=>ai Tryz.func93 C1.F93_ok (list_wp hm (rdCs hl) (λg hg=>ih g (by omega)) h hi hn hd hf))
    (λh hi hn hd hf=>ai Tryz.func94 C1.F94_ok (record_wp hm (rdCs hl) (λg hg=>ih g (by omega)) h hi hn hd hf)) h hi hn hd hf)
theorem readT {s:List UInt8}(hl:s.length<=65536){S:St}{R:List Rs}{sid tid:Nat}(h:Hs S (R++R_pa sid tid s zTc)):A 51 [.str s,.fn 52 [] [.ptr tid 0,.ptr sid 0]] S (ReaP sid tid s R S) :=
 AC_introD Tryz.checked.mixed Tryz.func51 (by kernel_rfl) C1.F51_ok (read_wp hm (ACU Tryz.prog gtT) hl h (badU s (by omega)) wrongU
  (λh=>ai Tryz.func52 C1.F52_ok (parse1_wp hm (rdCs (by omega)) (treeC (by omega)) h))
  (λk=>ACU_introG Tryz.checked.mixed Tryz.func87 (by kernel_rfl) C1.F87_ok (rec_ret k))
  (λh hi k=>ACU_introG Tryz.checked.mixed Tryz.func87 (by kernel_rfl) C1.F87_ok (rec_pan h hi k)))
theorem parseT {s:List UInt8}(hl:s.length<=65536){S:St}{R:List Rs}(h:Hs S R):A 19 [.str s] S (PaP s R S) :=
 ai Tryz.func19 C1.F19_ok (parseT_wp hm h λh=>readT hl h)
theorem where0 (a:Int):PF A 75 [.agg [.int .i64 a]] (.int .i64 a) :=
 pf Tryz.func75 (by kernel_rfl) C1.F75_ok (s1 ⟨trivial,trivial⟩) where_wp
theorem refused0 {S:St}{R:List Rs}(h:Hs S R):A 41 [.nilif,.agg [.int .i64 0,.int .i64 0]] S (IsRef R S) :=
 ai Tryz.func41 C1.F41_ok (refused0_wp h)
theorem asHit {S:St}{id off tid:Nat}{ty:TypeId}{v:AV}(h:lk S.boxes tid=some (some (ty,[v]))):A 74 [.ifc 105 (.ptr id off),.ifc 107 (.ptr tid 0)] S λr S'=>r=.ret (.bool true)/\S'={ S with boxes:=(tid,some (ty,[.ptr id off]))::S.boxes } :=
 primAs _ _ _ _ (by simp only[primV,Nat.beq_refl,Bool.and_self,cond_true,h])
theorem isHit {S:St}{id off:Nat}{ty:TypeId}{cs:List AV}{n:Int}(h:lk S.boxes id=some (some (ty,cs)))(hc:cs[off+1]? = some (.int .i64 n)):A 76 [.ifc 105 (.ptr id off),.ifc 26 (.int .i64 n)] S λr S'=>r=.ret (.bool true)/\S'=S :=
 primIs _ _ _ _ (by simp only[primV,Nat.beq_refl,Bool.and_self,cond_true,h,hc,beq_self_eq_true])
theorem refused1 {S:St}{R:List Rs}{id k a w:Nat}(h:Hs S R)(hk:R[k]? = some (wrB id a w))(hw:w≠0):A 41 [.ifc 105 (.ptr id 0),.agg [.int .i64 a,.int .i64 w]] S (IsRef R S) :=
 ai Tryz.func41 C1.F41_ok (refused1_wp hm h hk hw asHit isHit where0)
theorem letX (b:UInt8):PF A 117 [.int .u8 b.toNat] (.bool (letC b)) :=
 pf Tryz.func117 (by kernel_rfl) C1.F117_ok (s1 trivial) letX_wp
theorem digX (b:UInt8):PF A 152 [.int .u8 b.toNat] (.bool (digC b)) :=
 pf Tryz.func152 (by kernel_rfl) C1.F152_ok (s1 trivial) digX_wp
theorem rOK {s:List UInt8}{S:St}{R:List Rs}{rid i n:Nat}{a w:Int}(h:Hs S (rdB rid s i a w n::R)):A 72 [.ptr rid 0] S λr S'=>r=.ret (.bool (w == 0))/\S'=S :=
 ai Tryz.func72 C1.F72_ok (rOK_wp h)
theorem rF0 {s:List UInt8}{S:St}{R:List Rs}{rid i n:Nat}{a:Int}(at_:Nat)(why:Int)(h:Hs S (rdB rid s i a 0 n::R)):A 73 [.ptr rid 0,.int .i64 why,.int .i64 at_] S λr S'=>r=.ret (.tup [])/\Hs S' (rdB rid s i (faiA s why at_) (faiW s why at_) n::R)/\Kp S' S :=
 ai Tryz.func73 C1.F73_ok (rFail0_wp h)
theorem rFx {s:List UInt8}{S:St}{R:List Rs}{rid i n:Nat}{a w:Int}(at_ why:Int)(h:Hs S (rdB rid s i a w n::R))(hw:w≠0):A 73 [.ptr rid 0,.int .i64 why,.int .i64 at_] S λr S'=>r=.ret (.tup [])/\S'=S :=
 ai Tryz.func73 C1.F73_ok (rFailX_wp h hw)
theorem rIs {s:List UInt8}{S:St}{R:List Rs}{rid i n:Nat}{a w:Int}(c:Nat)(h:Hs S (rdB rid s i a w n::R)):A 156 [.ptr rid 0,.int .u8 c] S λr S'=>r=.ret (.bool ((w == 0) && isC s i c))/\S'=S :=
 ai Tryz.func156 C1.F156_ok (rIs_wp hm h λh=>rOK h)
theorem rRow {s more:List UInt8}(hl:s.length<=16777216)(hml:more.length<=100){p:UInt8->Bool}(hp:∀b:UInt8,p b=((letC b || digC b) || more.any λc=>Nat.beq b.toNat c.toNat)){S:St}{R:List Rs}{rid i n:Nat}{a w:Int}(at_:Nat)(h:Hs S (rdB rid s i a w n::R))(hi:at_<=s.length) :
  A 153 [.ptr rid 0,.int .i64 at_,.str more] S λr S'=>r=.ret (.int .i64 (rowE p s at_:Nat))/\S'=S :=
 ai Tryz.func153 C1.F153_ok (rRow_wp hm h hi hl hml hp letX digX)
theorem numC_any (b:UInt8):numC b=((letC b || digC b) || [43,45,46].any λc:UInt8=>Nat.beq b.toNat c.toNat):=by
 unfold numC;simp only[List.any_cons,List.any_nil,Bool.or_false];rw[Bool.or_comm (letC b) (digC b)];simp only[Bool.or_assoc];rfl
theorem timC_any (b:UInt8):timC b=((letC b || digC b) || [43,45,46,58].any λc:UInt8=>Nat.beq b.toNat c.toNat):=by
 unfold timC numC;simp only[List.any_cons,List.any_nil,Bool.or_false];rw[Bool.or_comm (letC b) (digC b)];simp only[Bool.or_assoc];rfl
theorem rfCs {s:List UInt8}(hl:s.length<=16777216):RfCs A s where
 ok h:=rOK h
 f0 a w h:=rF0 a w h
 fx a w h hw:=rFx a w h hw
 bla h hi:=ai Tryz.func70 C1.F70_ok (rBlanks_wp hm h hi hl)
 is c h:=rIs c h
 take c h hi:=ai Tryz.func155 C1.F155_ok (rTake_wp hm h hi hl (λc h=>rIs c h) (λa w h=>rF0 a w h) λa w h hw=>rFx a w h hw)
 rowN a h hi:=rRow hl (by decide) numC_any a h hi
 rowT a h hi:=rRow hl (by decide) timC_any a h hi
 quo h hi:=ai Tryz.func119 C1.F119_ok (rQuo_wp hm h hi hl (withinR s hl))
 beg h:=ai Tryz.func116 C1.F116_ok (rBeg_wp hm h letX digX)
 le:=letX
 dg:=digX
 nor t h:=normalR t (by omega)
 time t h:=time3 t (by omega)
 len:=hl
 num:=norm_nn
theorem valX {s:List UInt8}(hl:s.length<=16777216):ValX A s:=λh hw=>ai Tryz.func71 C1.F71_ok (valX_wp hm (rfCs hl) h hw)
theorem valC {s:List UInt8}(hl:s.length<=16777216):∀f,ValC A s f:=by
 intro f
 induction f using Nat.strongRecOn with
 | _ f ih =>
  cases f with
  | zero=>intro S R rid i n deep _ _ _ _ h;omega
  | succ f =>
   intro S R rid i n deep h hi hn hd hf;exact ai Tryz.func71 C1.F71_ok (rVal_wp hm (rfCs hl)
    (λh hi hn hd hf=>ai Tryz.func120 C1.F120_ok (rList_wp hm (rfCs hl) (λg hg=>ih g (by omega)) (valX hl) h hi hn hd hf))
    (λh hi hn hd hf=>ai Tryz.func121 C1.F121_ok (rRec_wp hm (rfCs hl) (λg hg=>ih g (by omega)) (valX hl) h hi hn hd hf)) h hi hn hd hf
    (λhb=>ai Tryz.func118 C1.F118_ok (rPla_wp hm (rfCs hl) h hb)))
theorem runesQ {s:List UInt8}(hl:s.length<4294967281){S:St}{R:List Rs}(h:Hs S R):A 108 [.str s] S (RunesQ s R S) :=
 ai Tryz.func108 C1.F108_ok (runesQ_wp hm h oneR hl)
theorem parseR {s:List UInt8}(hl:s.length<=65536){S:St}{R:List Rs}(h:Hs S R):A 40 [.str s,.bool true] S (ParR s R S) :=
 ai Tryz.func40 C1.F40_ok (rParse_wp hm (rfCs (by omega)) h
  (λh=>ai Tryz.func69 C1.F69_ok (rBegin_wp hm hl h λh=>runesQ (by omega) h)) (valC (by omega) _) (valX (by omega)))
theorem plainQ {S:St}{t u:PT}{v w:AV}(ht:t.ok)(hv:TV S t v)(hw:TV S u w):A 32 [v,w] S λr S'=>r=.ret (.bool (eqT t u))/\S'=S:=by
 refine AC_mono _ _ _ _ _ (AC_read (us:=[encT t,encT u]) (Φ:=λx=>x=.bool (eqT t u)) gtSta ?_ (λx hx=>by rw[hx];exact rfl) (AC_mono _ _ _ _ _ (plain t u ht St.init) λr S1 h=>⟨_,_,h.1,Sta.rdo _ trivial,rfl⟩)) ?_
 ·simp only[Rdos];exact⟨_,_,rfl,hv.rdo,_,_,rfl,hw.rdo,rfl⟩
 ·rintro r S' ⟨x,rfl,rfl,rfl⟩;exact⟨rfl,rfl⟩
theorem wthin (a:Int)(n:Nat)(h:0<n)(hn:n<4611686018427387904):PF A 39 [.int .i64 a,.int .i64 0,.int .i64 (((n:Nat):Int)-1)] (.int .i64 (a % n)) :=
 pf Tryz.func39 (by kernel_rfl) C1.F39_ok (s3 trivial trivial trivial) (wthin_wp h hn)
theorem law_parses (s:List UInt8)(a:Int):PF A 9 [.str s,.int .i64 a] (.bool true) :=
 pf Tryz.func9 (by kernel_rfl) C1.F9_ok (s2 trivial trivial) (parses_wp hm norm_nn wthin (λhy h=>parseT (by omega) h) (λhy h=>parseR (by omega) h) refused0 refused1 plainQ runs)
end Go.Proofs.YthgidapmofcloaaGreatDoor.Fn

namespace Go.Proofs.YthgidapmofcloaaGreatDoor.TreeParses
open Go.ChangeShapes Go.WideShapes Go.ChangeAt Go.RowKit Go.Dn Go.Proofs.YthgidapmofcloaaGreatDoor.Fn
theorem laidOut:laidOutB Tryz.prog=true:=by kernel_rfl
theorem wantsK:Tryz.pinned.checked.prog.wantsStandIn 9=false:=by kernel_rfl
theorem wantsM:Tryz.pinned.checked.prog.wantsStandIn 3=false:=by kernel_rfl
theorem walk {W:World}(hI:Inv Tryz.prog gtT St.init (G0 W) W){args:Array Value}{xs:List AV}{f:FuncId}(hac:A f xs St.init (Ret (.bool true)))(hx:Rl St.init (G0 W) W xs args.toList):Calls Tryz.prog f args W λe W'=>e=.returned (.bool true)/\Below W.heap.size W W':=by
 refine Calls.mono (hac.2 (G0 W) W args.toList hI hx) λe W' hp=>?_;cases e with
 | returned v =>
  obtain⟨x,S',G',⟨y,hy,hr⟩,t,rv⟩:=hp;cases hy;simp only[Rdo]at hr;subst hr;refine⟨?_,below_of_ext t.ext⟩;simp only[Rv]at rv;rw[rv]
 | panicked chain =>
  obtain⟨x,S',G',u,hc,⟨y,hy,hr⟩,_⟩:=hp;cases hy
 | outgrown=>exact hp.elim
set_option maxRecDepth 100000 in
theorem lifted (os:Os)(started:os.Started)(H:Type)(enc:TypeId×Value->H) :
  ReturnsInHanded {} Tryz.checked os 9 .any (λw args=>(Rows.treeParsesSpec.pre enc Tryz.prog Tryz.f9 [] false w args/\laidMetH Tryz.prog Rows.treeParsesRow.laid w)/\sizedMet enc Tryz.prog Tryz.f9 (OpenSpec.ofChange Rows.treeParsesSpec) false w args)
   (Rows.treeParsesSpec.post enc Tryz.prog Tryz.f9 false true false false):=by
 refine returnsInHanded_of_change_and (C:=Tryz.checked) (X:=λw _=>laidMetH Tryz.prog Rows.treeParsesRow.laid w) (λ_ _ _ hh h=>h.of_heap hh) own started (by kernel_rfl) Tryz.func9
  (ChangeSpec.witness_shaped (enc:=enc) (C:=Tryz.checked) (os:=os) (X:=λw _=>laidMetH Tryz.prog Rows.treeParsesRow.laid w) false (laidW os) #[.string .empty,.int .i64 0] 8 (laidW_os _)
   (World.shaped_of_ZipB (by kernel_rfl) (by kernel_rfl)) (by kernel_rfl) (by kernel_rfl) (by kernel_rfl)
   (laidW_met os _)) ?_
 intro W base args ds gs before hval0 hW _ _ hL hsz;have hval:∀(j:Nat) t v,Tryz.f9.params[j]? = some t->args[j]? = some v->Value.okWide Tryz.prog W .any base t v:=hval0;have hW':=hW;obtain⟨p,q,hA0,hV,rfl,hfz,hnd⟩:=hW;have hA:DataW.TrodAll enc Tryz.prog W 0 (λ_=>true) true Tryz.f9.params.toList args.toList ds p:=hA0;rw[Tryz.params9]at hA hval;obtain⟨v0,v1,d0,d1,p0,p1,rfl,rfl,rfl,h0,h1⟩:=trodAll_two hA;obtain⟨rfl,rfl⟩:=trodVars_none hV
 clear hA0 hval0
 simp only[List.append_nil]at hW';obtain⟨⟨⟨t⟩⟩,rfl⟩:=okWide_string u_str (hval 0 9 v0 rfl rfl);obtain⟨n,rfl⟩:=okWide_int u_int (hval 1 3 v1 rfl rfl);refine(walk (inv_of_laid hL) (AC_mono _ _ _ _ _ (law_parses t n St.init) λr S1 h=>⟨_,h.1,Sta.rdo _ trivial⟩) (Rl.cons (x:=.str t) (by simp only[Rv]) (Rl.cons (x:=.int .i64 n) (by simp only[Rv]) Rl.nil))).mono λe W' ⟨he,bel⟩=>?_;subst he;have hlt:∀x∈p0++p1,x.block<W.heap.size:=λx hx=>hW'.lt x (by simpa only[aA] using hx);exact⟨_,rfl,_,_,_,[],_,[],hW',trodAll_mk1 (shut_bool Tryz.underlying4 _),
  trodAll_mk2 (Below.trod laidOut (by kernel_rfl) (of_decide_eq_true (by kernel_rfl)) h0 bel (λx hx=>hlt x (by simp[hx]))) (Below.trod laidOut (by kernel_rfl) (of_decide_eq_true (by kernel_rfl)) h1 bel (λx hx=>hlt x (by simp[hx]))),rfl,bel.frame _,λh=>by cases h⟩
end Go.Proofs.YthgidapmofcloaaGreatDoor.TreeParses
