/- A function of the library, by a contract of the shelf: pure data in, pure data out. The code is the program's,printed by a program (Gen). errors.As and errors.Is at the targets that 'refused' hands them ('**text.Refusal', 'api.Errno'), walked after the worked proofs of toyas and sentry; then as contracts over the abstract store. errors.As and errors.Is as contracts over the abstract store. What the listed variables give: 'errors.errorType' holds the handle of the type 'error'; a world that meets the condition; the law without arguments, run by the kernel. Functions of the library by the contracts of the kit's shelf, as pure functions over the abstract store. The functions that laws about trees reach, as contracts, each by its code. Bytes as lists. Texts of characters: the reference's Runes and Valid. Trees: the reference's Shaped is the program's formed. Trees: the reference's Depth and Right; the law TreeRights, walked. Noughts cut off at both ends, in either order. Numbers: the reference's Digits and Decimal. Numbers: the reference's run; Split, from its end: the digits without noughts, the exponent. Numbers: the reference's Split: the exponent's number. Numbers: the reference's Split: the exponent's digits. Numbers: the reference's Split: its pieces. Numbers: the reference's Split is the program's. Numbers: the reference's Split is the program's: from its beginning. Numbers: the reference's Split, Join and Normal are the program's. Numbers: the reference's Join and Normal are the program's. Times: the reference's digits and dates. Times: the reference's dates are the program's. Times: the reference's times of a day are the program's. Times: the reference's Time, walked. Times: the reference's Time is the program's. The reference's functions that laws about trees reach, as contracts, each by its code. The walk to the next region's end, as a lemma that a tactic of its own serves. Quoted texts, as pure functions: digits of sixteen, escapes, characters' bytes, the text behind a quote; text.value and text.Hex. text.pair, text.Escaped. A row of a drawn region that would read the same again. text.put: a character's bytes. -/
import Derived.Below
import Derived.Test.YthgidapmofcloaaGreatDoorProg
import Derived.WalkKit
import Derived.LaidEql
import Derived.Stop.Asserts
import Derived.RowKitTokens
import Derived.Lib.IfaceEq
import Derived.Test.YthgidapmofcloaaGreatDoorTie
import Derived.Test.YthgidapmofcloaaGreatDoorCards
import Derived.ProofKit
import Derived.LaidMore
import Derived.LaidHandle
import Derived.Lib.LaidTab
import Derived.Stop.LaidErr
import Derived.OpenShut
import Derived.Stop.Joined
import Derived.Lay
import Derived.SevenTiedAt
import Derived.Lib.SmallJoins
import Derived.Lib.AppendIntMem
import Derived.Test.YthgidapmofcloaaGreatDoorQm
set_option linter.unusedSimpArgs false
set_option linter.unusedVariables false
namespace Go.Dn
open Go Go.RowKit
theorem PF.of_calls {P:Program}{gt:GT}{f:FuncId}{us:List AV}{u:AV}{args:List Value}{v:Value}(hb:HasBody P f)
  (ha:∀S G w vs,Rl S G w us vs->vs=args) (hv:∀S G w,Rv S G w u v)
  (h:∀w,Calls P f ⟨args⟩ w λe w'=>e=.returned v/\Below w.heap.size w w'):PF (AC P gt) f us u:=λS =>
 ⟨hb,λG w vs hI hx=>by
  rw[ha S G w vs hx];refine(h w).mono λe w' hp=>?_;obtain⟨rfl,bel⟩:=hp;exact⟨u,S,G,⟨rfl,rfl⟩,Tr.gr hI ⟨bel.os,bel.tape,bel.output,bel.size,bel.block⟩,hv S G w'⟩⟩
theorem PF.of_callsI {P:Program}{gt:GT}{f:FuncId}{us:List AV}{u:AV}{args:List Value}{v:Value}(hb:HasBody P f)
  (ha:∀S G w vs,Rl S G w us vs->vs=args) (hv:∀S G w,Rv S G w u v)
  (h:∀S G w,Inv P gt S G w->Calls P f ⟨args⟩ w λe w'=>e=.returned v/\Below w.heap.size w w'):PF (AC P gt) f us u:=λS =>
 ⟨hb,λG w vs hI hx=>by
  rw[ha S G w vs hx];refine(h S G w hI).mono λe w' hp=>?_;obtain⟨rfl,bel⟩:=hp;exact⟨u,S,G,⟨rfl,rfl⟩,Tr.gr hI ⟨bel.os,bel.tape,bel.output,bel.size,bel.block⟩,hv S G w'⟩⟩
theorem rl_str1 {S:St}{G:Gh}{w:World}{a:List UInt8}{vs:List Value}(h:Rl S G w [.str a] vs):vs=[.string ⟨a.toArray⟩]:=by
 simp only[Rl,Rv]at h;obtain⟨v,r,rfl,hv,rfl⟩:=h
 first | (obtain⟨b,rfl,e⟩:=hv;subst e;rfl) | (subst hv;rfl)
theorem rl_str2 {S:St}{G:Gh}{w:World}{a b:List UInt8}{vs:List Value}(h:Rl S G w [.str a,.str b] vs):vs=[.string ⟨a.toArray⟩,.string ⟨b.toArray⟩]:=by
 simp only[Rl,Rv]at h;obtain⟨v,r,rfl,hv,v2,r2,rfl,hv2,rfl⟩:=h
 first | (subst hv;subst hv2;rfl) | skip
end Go.Dn

namespace Go.Proofs.C1
open Go Go.Dn
set_option maxRecDepth 100000
noncomputable section
abbrev pF (n:Note) (f:Func):DF:=(prepF Tryz.prog n f).getD ⟨0,.ret,[]⟩
abbrev N3:Note:=⟨[1,4,6,8,10,12],[(0,[]),(1,[1]),(2,[1,2,3]),(3,[46]),(4,[0]),(5,[4,5]),(6,[79]),(7,[0]),(8,[105]),(9,[0]),(10,[6,7]),(11,[6,7,9]),(12,[6,7,9,11]),(13,[3,6,7,9,11,12]),(14,[0])],[(14,[none,none,none,none,none,none,none,none,none,none,none,none,none,none,none,none,none,none,none,none,none,none,(some 6),(some 6),none,none,none,none,none,none,none,none,none,none,none,none,none,none,none,none,none,none,(some 12),none,none,none,none])]⟩
def F3:DF:=pF N3 Tryz.f3
theorem F3_ok:prepF Tryz.prog N3 Tryz.f3=some F3:=by kernel_rfl
theorem F3_fn:FnOK2 Tryz.prog 3 (.pl F3):=.pl Tryz.func3 (by kernel_rfl) F3_ok
theorem F9_ok : prepF Tryz.prog ⟨[7,9,10],[(0,[0,1]),(1,[0,1,13]),(2,[0,1]),(3,[5]),(4,[5,6]),(5,[5,6,27]),(6,[5,6]),(7,[5,6,7,8]),(8,[5,6,7,8,9,10]),(9,[5,6,55]),(10,[4]),(11,[4]),(1000000,[5,6])],[]⟩ Tryz.f9 = some F9 := by kernel_rfl
theorem F9_fn:FnOK2 Tryz.prog 9 (.pl F9):=.pl Tryz.func9 (by kernel_rfl) F9_ok
abbrev N15:Note:=⟨[1],[(0,[1]),(1,[1,4]),(2,[1,4,9]),(3,[2,3]),(4,[1,5]),(5,[5]),(6,[5,20]),(7,[2,3]),(8,[2,3])],[]⟩
def F15:DF:=pF N15 Tryz.f15
theorem F15_ok:prepF Tryz.prog N15 Tryz.f15=some F15:=by kernel_rfl
theorem F15_fn:FnOK2 Tryz.prog 15 (.pl F15):=.pl Tryz.func15 (by kernel_rfl) F15_ok
theorem F16_ok : prepF Tryz.prog ⟨[1],[(0,[1]),(1,[1,3]),(2,[2]),(3,[1,7]),(4,[2]),(5,[11]),(6,[2]),(7,[2])],[]⟩ Tryz.f16 = some F16 := by kernel_rfl
theorem F16_fn:FnOK2 Tryz.prog 16 (.pl F16):=.pl Tryz.func16 (by kernel_rfl) F16_ok
theorem F17_ok : prepF Tryz.prog ⟨[1,5],[(0,[1]),(1,[1,3]),(2,[3,7,8,9]),(3,[3,7,8,9,10]),(4,[3,5,7,8,9]),(5,[3,7,8,9]),(6,[3,7,8,9]),(7,[2]),(1000000,[3,7,8,9])],[]⟩ Tryz.f17 = some F17 := by kernel_rfl
theorem F17_fn:FnOK2 Tryz.prog 17 (.pl F17):=.pl Tryz.func17 (by kernel_rfl) F17_ok
theorem F18_ok : prepF Tryz.prog ⟨[1,5],[(0,[1]),(1,[1,3]),(2,[3,7,8,9]),(3,[3,7,8,9,10]),(4,[3,5,7,8,9]),(5,[3,7,8,9]),(6,[3,7,8,9]),(7,[2]),(1000000,[3,7,8,9])],[]⟩ Tryz.f18 = some F18 := by kernel_rfl
theorem F18_fn:FnOK2 Tryz.prog 18 (.pl F18):=.pl Tryz.func18 (by kernel_rfl) F18_ok
theorem F19_ok : prepF Tryz.prog ⟨[2],[(0,[1,2]),(1,[1,2,4]),(2,[2,4,5]),(3,[2,4,5,10]),(4,[2,3]),(5,[2,3])],[]⟩ Tryz.f19 = some F19 := by kernel_rfl
theorem F19_fn:FnOK2 Tryz.prog 19 (.pl F19):=.pl Tryz.func19 (by kernel_rfl) F19_ok
abbrev N20:Note:=⟨[7],[(0,[0,1,2]),(1,[1,2,7,8]),(2,[6])],[]⟩
def F20:DF:=pF N20 Tryz.f20
theorem F20_ok:prepF Tryz.prog N20 Tryz.f20=some F20:=by kernel_rfl
theorem F20_fn:FnOK2 Tryz.prog 20 (.pl F20):=.pl Tryz.func20 (by kernel_rfl) F20_ok
theorem F21_ok : prepF Tryz.prog ⟨[2,4,7],[(0,[1,2,4]),(1,[2,4,9,10,11]),(2,[2,4,9,10,11,12]),(3,[2,4,7,9,10,11]),(4,[2,4,8,9,10,11]),(5,[2,4,8,9,10,11,19]),(6,[4,5]),(7,[2,4,9,10,11]),(8,[2,4,9,10,11]),(9,[4,5]),(1000000,[2,4,9,10,11])],[]⟩ Tryz.f21 = some F21 := by kernel_rfl
theorem F21_fn:FnOK2 Tryz.prog 21 (.pl F21):=.pl Tryz.func21 (by kernel_rfl) F21_ok
abbrev N22:Note:=⟨[2,3],[(0,[0,2]),(1,[2,3]),(2,[2])],[]⟩
def F22:DF:=pF N22 Tryz.f22
theorem F22_ok:prepF Tryz.prog N22 Tryz.f22=some F22:=by kernel_rfl
theorem F22_fn:FnOK2 Tryz.prog 22 (.pl F22):=.pl Tryz.func22 (by kernel_rfl) F22_ok
theorem F23_ok : prepF Tryz.prog ⟨[3,4,6,8],[(0,[2,3,4,6]),(1,[6,8,9]),(2,[6,8,18]),(3,[6,7]),(4,[6,7])],[]⟩ Tryz.f23 = some F23 := by kernel_rfl
theorem F23_fn:FnOK2 Tryz.prog 23 (.pl F23):=.pl Tryz.func23 (by kernel_rfl) F23_ok
abbrev N24:Note:=⟨[2,3],[(0,[2,3]),(1,[2,3,12]),(2,[4]),(3,[4])],[(3,[(some 2),none,(some 3),none,none,none])]⟩
def F24:DF:=pF N24 Tryz.f24
theorem F24_ok:prepF Tryz.prog N24 Tryz.f24=some F24:=by kernel_rfl
theorem F24_fn:FnOK2 Tryz.prog 24 (.pl F24):=.pl Tryz.func24 (by kernel_rfl) F24_ok
abbrev N25:Note:=⟨[2,3],[(0,[2,3]),(1,[2,3,9]),(2,[14]),(3,[4]),(4,[4]),(5,[4])],[(5,[(some 2),none,(some 3),none,none,none])]⟩
def F25:DF:=pF N25 Tryz.f25
theorem F25_ok:prepF Tryz.prog N25 Tryz.f25=some F25:=by kernel_rfl
theorem F25_fn:FnOK2 Tryz.prog 25 (.pl F25):=.pl Tryz.func25 (by kernel_rfl) F25_ok
theorem F31_ok : prepF Tryz.prog ⟨[1,2,3,5],[(0,[1,2]),(1,[1,2,3]),(2,[1,2,3]),(3,[2,3,18,19,20]),(4,[2,3,18,19,20,21]),(5,[2,3,5,18,19,20]),(6,[2,3,18,19,20]),(7,[2,3,18,19,20]),(8,[2]),(1000000,[2,3,18,19,20])],[(6,[(some 3),(some 3),(some 5),none,none,none,(some 3),(some 3)])]⟩ Tryz.f31 = some F31 := by kernel_rfl
theorem F31_fn:FnOK2 Tryz.prog 31 (.pl F31):=.pl Tryz.func31 (by kernel_rfl) F31_ok
theorem F32_ok : prepF Tryz.prog ⟨[2,3],[(0,[2,3]),(1,[2,3,36]),(2,[4]),(3,[2,3,5]),(4,[2,3,5,41]),(5,[2,3,5]),(6,[2,3,5,54]),(7,[4]),(8,[2,3,6]),(9,[2,3,6,59]),(10,[2,3,6]),(11,[2,3,6,73]),(12,[4]),(13,[4]),(1000000,[2,3,5]),(1000002,[2,3,6])],[(11,[(some 2),(some 2),none,none,none,(some 3),(some 3),none,none,none,none,none]),(6,[(some 2),(some 2),none,none,none,(some 3),(some 3),none,none,none,none])]⟩ Tryz.f32 = some F32 := by kernel_rfl
theorem F32_fn:FnOK2 Tryz.prog 32 (.pl F32):=.pl Tryz.func32 (by kernel_rfl) F32_ok
abbrev N34:Note:=⟨[1,2,3,5],[(0,[1,2]),(1,[1,2,3]),(2,[1,2,3,24]),(3,[1,2,3]),(4,[2,3,32,33,34]),(5,[2,3,32,33,34,35]),(6,[2,3,5,32,33,34]),(7,[2,3,32,33,34]),(8,[2,3,32,33,34]),(9,[2]),(10,[1,2,3,49,50,51]),(11,[1,2,3,49,50,51,52]),(12,[1,2,3,7,49,50,51]),(13,[1,2,3,7,49,50,51]),(14,[1,2,3,49,50,51]),(15,[1,2,3,49,50,51]),(16,[2]),(1000000,[2,3,32,33,34]),(1000002,[1,2,3,49,50,51])],[(14,[(some 3),(some 3),(some 1),(some 1),none,none,none,none,none,none,(some 3),(some 3)]),(13,[(some 3),(some 3),(some 1),(some 1),none,none,none,none,none,(some 3),(some 3)]),(7,[(some 3),(some 3),(some 5),none,none,none,(some 3),(some 3)])]⟩
def F34:DF:=pF N34 Tryz.f34
theorem F34_ok:prepF Tryz.prog N34 Tryz.f34=some F34:=by kernel_rfl
theorem F34_fn:FnOK2 Tryz.prog 34 (.pl F34):=.pl Tryz.func34 (by kernel_rfl) F34_ok
theorem F39_ok : prepF Tryz.prog ⟨[],[(0,[0,1,2]),(1,[0,1,2]),(2,[0,1,2,14]),(3,[0,1]),(4,[6])],[]⟩ Tryz.f39 = some F39 := by kernel_rfl
theorem F39_fn:FnOK2 Tryz.prog 39 (.pl F39):=.pl Tryz.func39 (by kernel_rfl) F39_ok
theorem F40_ok : prepF Tryz.prog ⟨[4,5,7],[(0,[0,1,4,5]),(1,[0,4,5,6]),(2,[0,4,5,6]),(3,[0,4,5,6,7]),(4,[0,4,5,6,7]),(5,[4,5,6,7,27]),(6,[4,5,6,7]),(7,[4,5,6,7,36]),(8,[4,5]),(9,[4,5])],[(8,[none,none,none,none,none,(some 4),(some 5)])]⟩ Tryz.f40 = some F40 := by kernel_rfl
theorem F40_fn:FnOK2 Tryz.prog 40 (.pl F40):=.pl Tryz.func40 (by kernel_rfl) F40_ok
theorem F41_ok : prepF Tryz.prog ⟨[3],[(0,[0,3]),(1,[0,3,8]),(2,[4]),(3,[0,3,5]),(4,[4])],[(4,[none,none,none,none,none,none,none,none,none,none,none,none,none,none,none,none,none,(some 3),(some 3),none,none,none,none,none,none,none,(some 3),(some 3),none,none,none,none,none,none,none,none,none,none,none,none])]⟩ Tryz.f41 = some F41 := by kernel_rfl
theorem F41_fn:FnOK2 Tryz.prog 41 (.pl F41):=.pl Tryz.func41 (by kernel_rfl) F41_ok
abbrev N47:Note:=⟨[3,7],[(0,[0,3]),(1,[0,3,13]),(2,[0,3,13,14]),(3,[]),(4,[0,3,13,18]),(5,[0,3,13,18]),(6,[]),(7,[0,3,13,25]),(8,[0,4]),(9,[]),(10,[0,3,13,36]),(11,[]),(12,[0,3,13,43]),(13,[0,3]),(14,[0,48,49,50]),(15,[0,48,49,50,51]),(16,[0,6,7,48,49,50]),(17,[0,7,48,49,50,56]),(18,[0,7,48,49,50]),(19,[0,48,49,50]),(20,[0,48,49,50]),(21,[]),(22,[0,3,65]),(23,[0,3]),(24,[0,3,71,72,73]),(25,[0,3,71,72,73,74]),(26,[0,3,8,9,71,72,73]),(27,[0,3,9,71,72,73,79]),(28,[0,3,9,71,72,73]),(29,[0,3,9,10,71,72,73]),(30,[0,3,9,71,72,73]),(31,[0,3,71,72,73]),(32,[0,3,71,72,73]),(33,[]),(1000001,[0,48,49,50]),(1000003,[0,3,71,72,73])],[]⟩
def F47:DF:=pF N47 Tryz.f47
theorem F47_ok:prepF Tryz.prog N47 Tryz.f47=some F47:=by kernel_rfl
theorem F47_fn:FnOK2 Tryz.prog 47 (.pl F47):=.pl Tryz.func47 (by kernel_rfl) F47_ok
abbrev N48:Note:=⟨[],[(0,[0]),(1,[2])],[]⟩
def F48:DF:=pF N48 Tryz.f48
theorem F48_ok:prepF Tryz.prog N48 Tryz.f48=some F48:=by kernel_rfl
theorem F48_fn:FnOK2 Tryz.prog 48 (.pl F48):=.pl Tryz.func48 (by kernel_rfl) F48_ok
abbrev N49:Note:=⟨[],[(0,[0]),(1,[2])],[]⟩
def F49:DF:=pF N49 Tryz.f49
theorem F49_ok:prepF Tryz.prog N49 Tryz.f49=some F49:=by kernel_rfl
theorem F49_fn:FnOK2 Tryz.prog 49 (.pl F49):=.pl Tryz.func49 (by kernel_rfl) F49_ok
theorem F50_ok : prepF Tryz.prog ⟨[1,4],[(0,[1]),(1,[1,9,10,11]),(2,[1,9,10,11,12]),(3,[1,4,9,10,11]),(4,[1,9,10,11,17]),(5,[2]),(6,[1,9,10,11]),(7,[1,5]),(8,[1,5,30]),(9,[1,5,30,31]),(10,[2]),(11,[1,5,30,39]),(12,[2]),(13,[1,5,30,52]),(14,[1,5,6,7]),(15,[2]),(16,[1,5,30,71]),(17,[2]),(18,[1,5,30,79]),(19,[2]),(20,[1,30,87]),(21,[2]),(22,[1,98]),(23,[2]),(24,[2]),(1000000,[1,9,10,11])],[]⟩ Tryz.f50 = some F50 := by kernel_rfl
theorem F50_fn:FnOK2 Tryz.prog 50 (.pl F50):=.pl Tryz.func50 (by kernel_rfl) F50_ok
theorem F51_ok : prepD Tryz.prog ⟨[],[(0,[0,1,4]),(1,[0,1,4,8]),(2,[4]),(3,[0,1,4,5]),(4,[0,1,4,5,14]),(5,[4]),(6,[0,1,4]),(7,[4]),(8,[4])],[]⟩ Tryz.f51 = some F51 := by kernel_rfl
theorem F51_fn : FnOK2 Tryz.prog 51 (.df F51) := .df Tryz.func51 (by kernel_rfl) F51_ok
theorem F52_ok : prepF Tryz.prog ⟨[4],[(0,[1,2,4]),(1,[1,2,4]),(2,[2,4]),(3,[2,4]),(4,[4,20]),(5,[])],[(4,[(some 4),(some 4),none,none,none,none,none,none])]⟩ Tryz.f52 = some F52 := by kernel_rfl
theorem F52_fn:FnOK2 Tryz.prog 52 (.pl F52):=.pl Tryz.func52 (by kernel_rfl) F52_ok
theorem F53_ok : prepF Tryz.prog ⟨[1],[(0,[1]),(1,[])],[]⟩ Tryz.f53 = some F53 := by kernel_rfl
theorem F53_fn:FnOK2 Tryz.prog 53 (.pl F53):=.pl Tryz.func53 (by kernel_rfl) F53_ok
theorem F54_ok : prepF Tryz.prog ⟨[2,4,7],[(0,[1,2,4]),(1,[1,2,4,5]),(2,[1,2,4,5,13]),(3,[2,4]),(4,[4]),(5,[1,2,4,5,26]),(6,[1,2,4]),(7,[4]),(8,[1,2,4,5,38]),(9,[1,2,4]),(10,[4]),(11,[1,2,4,5,50]),(12,[1,2,4,5]),(13,[1,2,4,5,6]),(14,[1,2,4,5,6,67]),(15,[1,2,4,5,6]),(16,[4,6]),(17,[4]),(18,[1,2,4,5,7]),(19,[4,7]),(20,[4])],[]⟩ Tryz.f54 = some F54 := by kernel_rfl
theorem F54_fn:FnOK2 Tryz.prog 54 (.pl F54):=.pl Tryz.func54 (by kernel_rfl) F54_ok
theorem F55_ok : prepF Tryz.prog ⟨[],[(0,[0,11]),(1,[0]),(2,[])],[]⟩ Tryz.f55 = some F55 := by kernel_rfl
theorem F55_fn:FnOK2 Tryz.prog 55 (.pl F55):=.pl Tryz.func55 (by kernel_rfl) F55_ok
theorem F56_ok : prepF Tryz.prog ⟨[2,3],[(0,[2,3]),(1,[2,3,7]),(2,[2,3,7,8]),(3,[3,25]),(4,[4]),(5,[2,3,28]),(6,[2,3,5]),(7,[5,46]),(8,[4]),(9,[4])],[]⟩ Tryz.f56 = some F56 := by kernel_rfl
theorem F56_fn:FnOK2 Tryz.prog 56 (.pl F56):=.pl Tryz.func56 (by kernel_rfl) F56_ok
theorem F57_ok : prepF Tryz.prog ⟨[3,4,6,9,11,13],[(0,[2,3,4,6]),(1,[2,3,4,6,16]),(2,[6,7]),(3,[2,3,4,6,8]),(4,[2,3,4,6,8,25]),(5,[6,7]),(6,[3,6,8,9,10]),(7,[3,6,8,9,40]),(8,[6,7]),(9,[3,6,8,9,11]),(10,[3,6,8,9,11]),(11,[6,8,9,11,54,55,56]),(12,[6,8,9,11,54,55,56,57]),(13,[6,8,9,11,12,13,54,55,56]),(14,[6,8,9,11,13,54,55,56,63]),(15,[6,8,9,11,54,55,56]),(16,[6,8,9,11,54,55,56]),(17,[6,8,9,11,54,55,56]),(18,[6,7]),(1000000,[6,8,9,11,54,55,56])],[(16,[(some 11),(some 11),(some 13),none,none,none,(some 11),(some 11)]),(6,[(some 3),(some 3),none,none,none,(some 4),none,none,none,none,none,none,none,(some 9),none]),(3,[(some 3),none,none,none,none,none])]⟩ Tryz.f57 = some F57 := by kernel_rfl
theorem F57_fn:FnOK2 Tryz.prog 57 (.pl F57):=.pl Tryz.func57 (by kernel_rfl) F57_ok
abbrev N58:Note:=⟨[2,3],[(0,[2,3]),(1,[4])],[]⟩
def F58:DF:=pF N58 Tryz.f58
theorem F58_ok:prepF Tryz.prog N58 Tryz.f58=some F58:=by kernel_rfl
theorem F58_fn:FnOK2 Tryz.prog 58 (.pl F58):=.pl Tryz.func58 (by kernel_rfl) F58_ok
abbrev N59:Note:=⟨[2,3],[(0,[2,3]),(1,[2,3,15]),(2,[4]),(3,[2,3,24]),(4,[2,3,5,6]),(5,[2,3,5,34]),(6,[4]),(7,[2,3,7]),(8,[2,3,7,42]),(9,[4]),(10,[2,3,50,51]),(11,[2,3,50,51,52]),(12,[2,3,8,50,51]),(13,[2,3,8,50,51,65]),(14,[2,3,8,9,50,51]),(15,[2,3,8,9,50,51,78]),(16,[4]),(17,[2,3,10,50,51]),(18,[2,3,10,50,51,92]),(19,[4]),(20,[2,3,50,51]),(21,[4]),(1000000,[2,3,50,51])],[(17,[(some 2),(some 2),none,none,none,(some 3),(some 3),none,none,none,none,none]),(14,[(some 2),(some 2),none,none,none,(some 3),(some 3),none,none,none,none,none])]⟩
def F59:DF:=pF N59 Tryz.f59
theorem F59_ok:prepF Tryz.prog N59 Tryz.f59=some F59:=by kernel_rfl
theorem F59_fn:FnOK2 Tryz.prog 59 (.pl F59):=.pl Tryz.func59 (by kernel_rfl) F59_ok
theorem F61_ok : prepF Tryz.prog ⟨[4],[(0,[0]),(1,[4,5]),(2,[4,5,12]),(3,[2,3]),(4,[2,3])],[]⟩ Tryz.f61 = some F61 := by kernel_rfl
theorem F61_fn:FnOK2 Tryz.prog 61 (.pl F61):=.pl Tryz.func61 (by kernel_rfl) F61_ok
theorem F63_ok : prepF Tryz.prog ⟨[],[(0,[0]),(1,[0,12]),(2,[2]),(3,[0,26]),(4,[2]),(5,[3]),(6,[3,30]),(7,[2]),(8,[3,4]),(9,[3,4,37]),(10,[2]),(11,[3,4,65]),(12,[2]),(13,[3,4,5]),(14,[3,4,5,6]),(15,[2])],[]⟩ Tryz.f63 = some F63 := by kernel_rfl
theorem F63_fn:FnOK2 Tryz.prog 63 (.pl F63):=.pl Tryz.func63 (by kernel_rfl) F63_ok
abbrev N64:Note:=⟨[],[(0,[1]),(1,[1,3]),(2,[1,3,9,10]),(3,[1,3,9,10,11]),(4,[1,3,4,9,10]),(5,[1,3,9,10]),(6,[1,3,9,10]),(7,[3]),(8,[2]),(1000000,[1,3,9,10])],[]⟩
def F64:DF:=pF N64 Tryz.f64
theorem F64_ok:prepF Tryz.prog N64 Tryz.f64=some F64:=by kernel_rfl
theorem F64_fn:FnOK2 Tryz.prog 64 (.pl F64):=.pl Tryz.func64 (by kernel_rfl) F64_ok
theorem F69_ok : prepF Tryz.prog ⟨[7],[(0,[0,1]),(1,[0,5]),(2,[0,5,14]),(3,[5]),(4,[4]),(5,[5,7]),(6,[5]),(7,[4])],[]⟩ Tryz.f69 = some F69 := by kernel_rfl
theorem F69_fn:FnOK2 Tryz.prog 69 (.pl F69):=.pl Tryz.func69 (by kernel_rfl) F69_ok
theorem F70_ok : prepF Tryz.prog ⟨[],[(0,[0,59]),(1,[0]),(1000000,[0])],[]⟩ Tryz.f70 = some F70 := by kernel_rfl
theorem F70_fn:FnOK2 Tryz.prog 70 (.pl F70):=.pl Tryz.func70 (by kernel_rfl) F70_ok
theorem F71_ok : prepF Tryz.prog ⟨[4,9],[(0,[0,1,4]),(1,[0,1,4,12]),(2,[4]),(3,[0,1,4,5]),(4,[0,1,4,5,20]),(5,[4]),(6,[4]),(7,[0,1,4,5,6]),(8,[0,1,4,5,6,32]),(9,[0,1,4,5,6,7]),(10,[0,1,4,5,6,7,49]),(11,[0,1,4,5,6,7]),(12,[0,1,4,5,6,8]),(13,[0,1,4,5,6,68]),(14,[4]),(15,[4]),(16,[0,1,4,5,6,9]),(17,[0,1,4,5,6,9,79]),(18,[4]),(19,[0,1,4,5,6,9,82]),(20,[4]),(21,[4]),(22,[0,1,4,5,6,9,91]),(23,[4]),(24,[4]),(25,[0,1,4,6,9]),(26,[0,1,4,9,103]),(27,[0,1,4,9,103,104]),(28,[4]),(29,[0,1,4,9,103,109]),(30,[4]),(31,[0,1,4,9,114]),(32,[4]),(33,[4]),(1000000,[0,1,4,5,6,7])],[]⟩ Tryz.f71 = some F71 := by kernel_rfl
theorem F71_fn:FnOK2 Tryz.prog 71 (.pl F71):=.pl Tryz.func71 (by kernel_rfl) F71_ok
theorem F72_ok : prepF Tryz.prog ⟨[],[(0,[0]),(1,[2])],[]⟩ Tryz.f72 = some F72 := by kernel_rfl
theorem F72_fn:FnOK2 Tryz.prog 72 (.pl F72):=.pl Tryz.func72 (by kernel_rfl) F72_ok
theorem F73_ok : prepF Tryz.prog ⟨[],[(0,[0,1,2,11]),(1,[0,1,2,22]),(2,[0,1]),(3,[0,1,2]),(4,[])],[]⟩ Tryz.f73 = some F73 := by kernel_rfl
theorem F73_fn:FnOK2 Tryz.prog 73 (.pl F73):=.pl Tryz.func73 (by kernel_rfl) F73_ok
theorem F75_ok : prepF Tryz.prog ⟨[1],[(0,[1]),(1,[2])],[]⟩ Tryz.f75 = some F75 := by kernel_rfl
theorem F75_fn:FnOK2 Tryz.prog 75 (.pl F75):=.pl Tryz.func75 (by kernel_rfl) F75_ok
abbrev N79:Note:=⟨[],[(0,[0,1,8]),(1,[])],[]⟩
def F79:DF:=pF N79 Tryz.f79
theorem F79_ok:prepF Tryz.prog N79 Tryz.f79=some F79:=by kernel_rfl
theorem F79_fn:FnOK2 Tryz.prog 79 (.pl F79):=.pl Tryz.func79 (by kernel_rfl) F79_ok
abbrev N80:Note:=⟨[],[(0,[0]),(1,[0,10]),(2,[2,3]),(3,[0,4]),(4,[0,4]),(5,[0,4,13,14]),(6,[0,4,13,14,15]),(7,[0,4,5,13,14]),(8,[0,4,6,13,14]),(9,[0,4,6,7,13,14]),(10,[0,4,13,14]),(11,[0,4,6,7,13,14,24]),(12,[0,4,7,13,14]),(13,[0,4,13,14]),(14,[0,4,6,13,14,30]),(15,[0,4,6,13,14]),(16,[0,4,6,13,14]),(17,[0,4,13,14]),(18,[0,4,13,14]),(19,[4]),(20,[2,3]),(1000000,[0,4,13,14])],[]⟩
def F80:DF:=pF N80 Tryz.f80
theorem F80_ok:prepF Tryz.prog N80 Tryz.f80=some F80:=by kernel_rfl
theorem F80_fn:FnOK2 Tryz.prog 80 (.pl F80):=.pl Tryz.func80 (by kernel_rfl) F80_ok
theorem F81_ok : prepF Tryz.prog ⟨[4],[(0,[0]),(1,[4,5]),(2,[4,5,12]),(3,[2,3]),(4,[2,3])],[]⟩ Tryz.f81 = some F81 := by kernel_rfl
theorem F81_fn:FnOK2 Tryz.prog 81 (.pl F81):=.pl Tryz.func81 (by kernel_rfl) F81_ok
theorem F82_ok : prepF Tryz.prog ⟨[],[(0,[0]),(1,[2])],[]⟩ Tryz.f82 = some F82 := by kernel_rfl
theorem F82_fn:FnOK2 Tryz.prog 82 (.pl F82):=.pl Tryz.func82 (by kernel_rfl) F82_ok
theorem F83_ok : prepF Tryz.prog ⟨[],[(0,[0]),(1,[0,11]),(2,[2]),(3,[0]),(4,[3,4,5]),(5,[2])],[]⟩ Tryz.f83 = some F83 := by kernel_rfl
theorem F83_fn:FnOK2 Tryz.prog 83 (.pl F83):=.pl Tryz.func83 (by kernel_rfl) F83_ok
theorem F84_ok : prepF Tryz.prog ⟨[],[(0,[0]),(1,[0,3]),(2,[3,7,8,9]),(3,[3,7,8,9,10]),(4,[3,5,7,8,9]),(5,[3,5,7,8,9]),(6,[3,7,8,9,25]),(7,[2]),(8,[3,7,8,9]),(9,[2]),(1000000,[3,7,8,9])],[]⟩ Tryz.f84 = some F84 := by kernel_rfl
theorem F84_fn:FnOK2 Tryz.prog 84 (.pl F84):=.pl Tryz.func84 (by kernel_rfl) F84_ok
theorem F85_ok : prepF Tryz.prog ⟨[],[(0,[0,1]),(1,[4])],[]⟩ Tryz.f85 = some F85 := by kernel_rfl
theorem F85_fn:FnOK2 Tryz.prog 85 (.pl F85):=.pl Tryz.func85 (by kernel_rfl) F85_ok
theorem F86_ok : prepF Tryz.prog ⟨[],[(0,[0]),(1,[0,3]),(2,[0,3,9]),(3,[0,3,5]),(4,[0,3,5,18]),(5,[2]),(6,[0,3]),(7,[2]),(1000000,[0,3])],[]⟩ Tryz.f86 = some F86 := by kernel_rfl
theorem F86_fn:FnOK2 Tryz.prog 86 (.pl F86):=.pl Tryz.func86 (by kernel_rfl) F86_ok
theorem F87_ok : prepG Tryz.prog ⟨[],[(0,[0,1]),(1,[0,1,6]),(2,[0,1,2,3]),(3,[0,1,2,13]),(4,[0,2]),(5,[])],[]⟩ Tryz.f87 = some F87 := by kernel_rfl
theorem F87_fn : FnOK2 Tryz.prog 87 (.rc F87) := .rc Tryz.func87 (by kernel_rfl) F87_ok
theorem F88_ok : prepF Tryz.prog ⟨[],[(0,[0,1]),(1,[0,1,5]),(2,[0,1,5,32]),(3,[0,1,5]),(4,[4]),(1000000,[0,1,5])],[]⟩ Tryz.f88 = some F88 := by kernel_rfl
theorem F88_fn:FnOK2 Tryz.prog 88 (.pl F88):=.pl Tryz.func88 (by kernel_rfl) F88_ok
theorem F89_ok : prepF Tryz.prog ⟨[],[(0,[0]),(1,[2])],[]⟩ Tryz.f89 = some F89 := by kernel_rfl
theorem F89_fn:FnOK2 Tryz.prog 89 (.pl F89):=.pl Tryz.func89 (by kernel_rfl) F89_ok
theorem F90_ok : prepF Tryz.prog ⟨[],[(0,[0,1]),(1,[4])],[]⟩ Tryz.f90 = some F90 := by kernel_rfl
theorem F90_fn:FnOK2 Tryz.prog 90 (.pl F90):=.pl Tryz.func90 (by kernel_rfl) F90_ok
theorem F91_ok : prepF Tryz.prog ⟨[],[(0,[0,1,3,9]),(1,[0,1,3]),(2,[0,1]),(3,[1,24]),(4,[])],[]⟩ Tryz.f91 = some F91 := by kernel_rfl
theorem F91_fn:FnOK2 Tryz.prog 91 (.pl F91):=.pl Tryz.func91 (by kernel_rfl) F91_ok
theorem F92_ok : prepF Tryz.prog ⟨[],[(0,[0]),(1,[0,3,4,5]),(2,[0,3,4,5,21]),(3,[0,3,4]),(4,[3]),(5,[2])],[]⟩ Tryz.f92 = some F92 := by kernel_rfl
theorem F92_fn:FnOK2 Tryz.prog 92 (.pl F92):=.pl Tryz.func92 (by kernel_rfl) F92_ok
theorem F93_ok : prepF Tryz.prog ⟨[2,4,5],[(0,[1,2,4]),(1,[1,2,4,5]),(2,[1,2,4,5]),(3,[1,2,4,5]),(4,[1,2,4,5,14]),(5,[4,5]),(6,[4]),(7,[1,2,4,5]),(8,[1,2,4,5]),(9,[1,2,4,5]),(10,[1,2,4,5,40]),(11,[4,5]),(12,[4]),(13,[1,2,4,5]),(1000000,[1,2,4,5])],[(8,[(some 5),(some 5),(some 2),none,none,none,none,none,(some 5),(some 5)])]⟩ Tryz.f93 = some F93 := by kernel_rfl
theorem F93_fn:FnOK2 Tryz.prog 93 (.pl F93):=.pl Tryz.func93 (by kernel_rfl) F93_ok
theorem F94_ok : prepF Tryz.prog ⟨[2,4,5],[(0,[1,2,4]),(1,[1,2,4,5]),(2,[1,2,4,5,6]),(3,[1,2,4,5,6]),(4,[1,2,4,5,6]),(5,[1,2,4,5,6,18]),(6,[4,5]),(7,[4]),(8,[1,2,4,5,6]),(9,[1,2,4,5,6,7]),(10,[1,2,4,5,6,7,38]),(11,[1,2,4,5,6,7]),(12,[1,2,4,5,6,7,8]),(13,[1,2,4,5,6,7,8]),(14,[1,2,4,5,6,7,8,52]),(15,[1,2,4,5,6,8]),(16,[1,2,4,5,6,8]),(17,[1,2,4,5,6,8]),(18,[1,2,4,5,6,8]),(19,[1,2,4,5,6]),(20,[1,2,4,5,6]),(21,[1,2,4,5,6]),(22,[1,2,4,5,6,82]),(23,[4,5]),(24,[4]),(25,[1,2,4,5,6]),(1000000,[1,2,4,5,6])],[(20,[(some 5),(some 5),(some 2),none,none,none,none,none,(some 5),(some 5)])]⟩ Tryz.f94 = some F94 := by kernel_rfl
theorem F94_fn:FnOK2 Tryz.prog 94 (.pl F94):=.pl Tryz.func94 (by kernel_rfl) F94_ok
theorem F95_ok : prepF Tryz.prog ⟨[],[(0,[0]),(1,[2])],[]⟩ Tryz.f95 = some F95 := by kernel_rfl
theorem F95_fn:FnOK2 Tryz.prog 95 (.pl F95):=.pl Tryz.func95 (by kernel_rfl) F95_ok
theorem F96_ok : prepF Tryz.prog ⟨[],[(0,[0]),(1,[2])],[]⟩ Tryz.f96 = some F96 := by kernel_rfl
theorem F96_fn:FnOK2 Tryz.prog 96 (.pl F96):=.pl Tryz.func96 (by kernel_rfl) F96_ok
theorem F97_ok : prepF Tryz.prog ⟨[],[(0,[])],[]⟩ Tryz.f97 = some F97 := by kernel_rfl
theorem F97_fn:FnOK2 Tryz.prog 97 (.pl F97):=.pl Tryz.func97 (by kernel_rfl) F97_ok
theorem F98_ok : prepF Tryz.prog ⟨[2],[(0,[0,2]),(1,[0,2,3]),(2,[0,2,3,11]),(3,[2,3,4,5]),(4,[2,3,4,5,53]),(5,[2,4]),(6,[2]),(7,[0,2,3,59]),(8,[0,2,3,6]),(9,[0,2,3,6,84]),(10,[0,2,3,6,84,85]),(11,[2]),(12,[0,2,3,6,84,88]),(13,[0,2,3,6,88]),(14,[2]),(15,[0,2]),(16,[2]),(17,[2])],[]⟩ Tryz.f98 = some F98 := by kernel_rfl
theorem F98_fn:FnOK2 Tryz.prog 98 (.pl F98):=.pl Tryz.func98 (by kernel_rfl) F98_ok
theorem F99_ok : prepF Tryz.prog ⟨[],[(0,[0,1]),(1,[0,1,7,8]),(2,[0,1,7,8,9]),(3,[0,1,5,7,8]),(4,[0,1,5,7,8,16]),(5,[4]),(6,[0,1,7,8]),(7,[4]),(1000000,[0,1,7,8])],[]⟩ Tryz.f99 = some F99 := by kernel_rfl
theorem F99_fn:FnOK2 Tryz.prog 99 (.pl F99):=.pl Tryz.func99 (by kernel_rfl) F99_ok
abbrev N100:Note:=⟨[],[(0,[0,1]),(1,[0,1,10]),(2,[4]),(3,[0,1,12,13]),(4,[0,1,12,13,14]),(5,[0,1,5,12,13]),(6,[0,1,12,13,24]),(7,[4]),(8,[0,1,12,13]),(9,[4]),(1000000,[0,1,12,13])],[]⟩
def F100:DF:=pF N100 Tryz.f100
theorem F100_ok:prepF Tryz.prog N100 Tryz.f100=some F100:=by kernel_rfl
theorem F100_fn:FnOK2 Tryz.prog 100 (.pl F100):=.pl Tryz.func100 (by kernel_rfl) F100_ok
abbrev N101:Note:=⟨[8,9],[(0,[0,1,2]),(1,[0,1,2,14]),(2,[6]),(3,[1,2,15,16,17]),(4,[1,2,15,16,17,18]),(5,[1,2,7,8,15,16,17]),(6,[1,2,8,9,15,16,17]),(7,[1,2,15,16,17,30]),(8,[6]),(9,[1,2,15,16,17]),(10,[6]),(1000000,[1,2,15,16,17])],[]⟩
def F101:DF:=pF N101 Tryz.f101
theorem F101_ok:prepF Tryz.prog N101 Tryz.f101=some F101:=by kernel_rfl
theorem F101_fn:FnOK2 Tryz.prog 101 (.pl F101):=.pl Tryz.func101 (by kernel_rfl) F101_ok
abbrev N102:Note:=⟨[],[(0,[0]),(1,[2])],[]⟩
def F102:DF:=pF N102 Tryz.f102
theorem F102_ok:prepF Tryz.prog N102 Tryz.f102=some F102:=by kernel_rfl
theorem F102_fn:FnOK2 Tryz.prog 102 (.pl F102):=.pl Tryz.func102 (by kernel_rfl) F102_ok
abbrev N103:Note:=⟨[6,8],[(0,[0,1]),(1,[1,6,7]),(2,[1,6,7,15]),(3,[4,5]),(4,[6,7,8]),(5,[6,7,8,23]),(6,[4,5]),(7,[6,8,25]),(8,[4,5]),(9,[6,8,35]),(10,[4,5]),(11,[6,8,38]),(12,[4,5]),(13,[4,5])],[]⟩
def F103:DF:=pF N103 Tryz.f103
theorem F103_ok:prepF Tryz.prog N103 Tryz.f103=some F103:=by kernel_rfl
theorem F103_fn:FnOK2 Tryz.prog 103 (.pl F103):=.pl Tryz.func103 (by kernel_rfl) F103_ok
abbrev N104:Note:=⟨[],[(0,[0,1]),(1,[4])],[]⟩
def F104:DF:=pF N104 Tryz.f104
theorem F104_ok:prepF Tryz.prog N104 Tryz.f104=some F104:=by kernel_rfl
theorem F104_fn:FnOK2 Tryz.prog 104 (.pl F104):=.pl Tryz.func104 (by kernel_rfl) F104_ok
theorem F106_ok : prepF Tryz.prog ⟨[2],[(0,[0,2]),(1,[0,2,4]),(2,[0,2,4,24]),(3,[0,2,4]),(4,[0,2,4,5]),(5,[0,2,4,5,44]),(6,[2,3]),(7,[0,2,5,6]),(8,[0,2,5,6,7]),(9,[0,2,5,6,7,59]),(10,[0,2,5,6,8]),(11,[0,2,5,6,8,67]),(12,[2,3]),(13,[0,2,6,7,8]),(14,[0,2,5,6,7]),(15,[0,2,5,6,7,9]),(16,[0,2,5,6,7,9,10]),(17,[0,2,5,6,7,9,10,90]),(18,[0,2,5,6,7,10]),(19,[0,2,5,6,7,10,108]),(20,[0,2,5,6,7,10]),(21,[0,2,5,6,7,10]),(22,[0,2,5,6,7,10,11]),(23,[0,2,5,6,7,10,11,120]),(24,[2,3]),(25,[0,2,6,7,9,10,11]),(26,[0,2,5,6,7,9,10]),(27,[0,2,6,7,9,10,130]),(28,[2,3]),(29,[0,2,6,7,9,10,134]),(30,[2,3]),(31,[0,2,6,7,9,10,143]),(32,[0,2,6,7,9,10]),(33,[0,2,6,7,9,10,148]),(34,[2,3]),(35,[0,2,6,7,9,10,12]),(36,[0,2,6,7,9,10,12,13]),(37,[0,2,6,7,9,10,12,13,153]),(38,[0,2,6,7,9,10,12,13]),(39,[0,2,6,7,9,10,12,13]),(40,[0,2,6,7,12,164]),(41,[0,2,6,7,12]),(42,[0,2,6,7,12]),(43,[0,2,12,14]),(44,[0,2,12,14,184]),(45,[0,2,12,14]),(46,[0,2,12,14]),(47,[0,2,12,14,199]),(48,[0,2,12,14]),(49,[0,2,12,14,203]),(50,[2,3]),(51,[2,3]),(1000000,[0,2,6,7,9,10]),(1000002,[0,2,6,7,9,10,12,13]),(1000004,[0,2,12,14]),(1000006,[0,2,12,14])],[]⟩ Tryz.f106 = some F106 := by kernel_rfl
theorem F106_fn:FnOK2 Tryz.prog 106 (.pl F106):=.pl Tryz.func106 (by kernel_rfl) F106_ok
theorem F107_ok : prepF Tryz.prog ⟨[1],[(0,[1]),(1,[1,4]),(2,[1,4,5]),(3,[1,4,5,12]),(4,[1,4,5]),(5,[1,4,5,20]),(6,[2,3]),(7,[1,4,49]),(8,[2,3]),(9,[1,4,57]),(10,[2,3]),(11,[1,59]),(12,[2,3]),(13,[1,6]),(14,[1,6,63]),(15,[1,6]),(16,[1,6,68]),(17,[6]),(18,[6,77]),(19,[2,3]),(20,[2,3]),(1000000,[1,4,5])],[]⟩ Tryz.f107 = some F107 := by kernel_rfl
theorem F107_fn:FnOK2 Tryz.prog 107 (.pl F107):=.pl Tryz.func107 (by kernel_rfl) F107_ok
theorem F108_ok : prepF Tryz.prog ⟨[3],[(0,[0,3]),(1,[0,3,4]),(2,[0,3,4,5]),(3,[0,3,4,5,11]),(4,[0,3,4,5,6,7]),(5,[0,3,4,5,6,7,19]),(6,[2,3]),(7,[0,3,4,5,7]),(8,[0,3,4,5]),(9,[2,3]),(1000000,[0,3,4,5])],[]⟩ Tryz.f108 = some F108 := by kernel_rfl
theorem F108_fn:FnOK2 Tryz.prog 108 (.pl F108):=.pl Tryz.func108 (by kernel_rfl) F108_ok
theorem F109_ok : prepF Tryz.prog ⟨[],[(0,[0]),(1,[0,19]),(2,[2]),(3,[0,3]),(4,[0,3,4]),(5,[3,4,5]),(6,[3,4,5,39]),(7,[2]),(8,[3,4,5,6]),(9,[3,4,5,6,53]),(10,[3,4,5,6]),(11,[3,5,6,55]),(12,[3,5,6]),(13,[5,6,68]),(14,[5,6]),(15,[2])],[]⟩ Tryz.f109 = some F109 := by kernel_rfl
theorem F109_fn:FnOK2 Tryz.prog 109 (.pl F109):=.pl Tryz.func109 (by kernel_rfl) F109_ok
theorem F110_ok : prepF Tryz.prog ⟨[],[(0,[0]),(1,[0,18]),(2,[2]),(3,[0,3]),(4,[0,3,4]),(5,[0,3,4,5]),(6,[0,46]),(7,[2]),(8,[0,49]),(9,[2]),(10,[2])],[]⟩ Tryz.f110 = some F110 := by kernel_rfl
theorem F110_fn:FnOK2 Tryz.prog 110 (.pl F110):=.pl Tryz.func110 (by kernel_rfl) F110_ok
theorem F111_ok : prepF Tryz.prog ⟨[],[(0,[0,1,2]),(1,[0,1,2,7]),(2,[0,1,2,7,8]),(3,[0,1,2,7,8,14]),(4,[0,1,2,7,8]),(5,[0,1,2,7,8,32]),(6,[6]),(7,[0,1,2,7,8]),(8,[6]),(1000000,[0,1,2,7,8])],[]⟩ Tryz.f111 = some F111 := by kernel_rfl
theorem F111_fn:FnOK2 Tryz.prog 111 (.pl F111):=.pl Tryz.func111 (by kernel_rfl) F111_ok
abbrev N112:Note:=⟨[],[(0,[])],[]⟩
def F112:DF:=pF N112 Tryz.f112
theorem F112_ok:prepF Tryz.prog N112 Tryz.f112=some F112:=by kernel_rfl
theorem F112_fn:FnOK2 Tryz.prog 112 (.pl F112):=.pl Tryz.func112 (by kernel_rfl) F112_ok
abbrev N113:Note:=⟨[],[(0,[0,1,2]),(1,[5])],[]⟩
def F113:DF:=pF N113 Tryz.f113
theorem F113_ok:prepF Tryz.prog N113 Tryz.f113=some F113:=by kernel_rfl
theorem F113_fn:FnOK2 Tryz.prog 113 (.pl F113):=.pl Tryz.func113 (by kernel_rfl) F113_ok
theorem F116_ok : prepF Tryz.prog ⟨[],[(0,[0]),(1,[0,13]),(2,[2]),(3,[0,3]),(4,[2])],[]⟩ Tryz.f116 = some F116 := by kernel_rfl
theorem F116_fn:FnOK2 Tryz.prog 116 (.pl F116):=.pl Tryz.func116 (by kernel_rfl) F116_ok
theorem F117_ok : prepF Tryz.prog ⟨[],[(0,[0]),(1,[2])],[]⟩ Tryz.f117 = some F117 := by kernel_rfl
theorem F117_fn:FnOK2 Tryz.prog 117 (.pl F117):=.pl Tryz.func117 (by kernel_rfl) F117_ok
theorem F118_ok : prepF Tryz.prog ⟨[6],[(0,[0,1,2,6]),(1,[0,1,2,6,12]),(2,[0,2,6,36]),(3,[0,2,6]),(4,[6,7]),(5,[6,7,55]),(6,[6]),(7,[6]),(8,[0,1,2,6,59]),(9,[0,2,6,8]),(10,[0,2,6,8,9,10]),(11,[0,2,6,8,9,10,81]),(12,[6]),(13,[6]),(14,[6,9]),(15,[6]),(16,[0,2,6,93]),(17,[0,2,6,11]),(18,[0,2,6,11,109]),(19,[6]),(20,[6]),(21,[0,2,6,11]),(22,[6]),(23,[6]),(1000001,[0,2,6])],[]⟩ Tryz.f118 = some F118 := by kernel_rfl
theorem F118_fn:FnOK2 Tryz.prog 118 (.pl F118):=.pl Tryz.func118 (by kernel_rfl) F118_ok
theorem F119_ok : prepF Tryz.prog ⟨[5],[(0,[0]),(1,[0,3,4,5]),(2,[0,3,4,5,21]),(3,[0,5,27]),(4,[]),(5,[2]),(6,[3]),(7,[2])],[(1,[none,none,none,none,none,none,none,none,none,none,none,none,none,none,none,none,(some 5)])]⟩ Tryz.f119 = some F119 := by kernel_rfl
theorem F119_fn:FnOK2 Tryz.prog 119 (.pl F119):=.pl Tryz.func119 (by kernel_rfl) F119_ok
theorem F120_ok : prepF Tryz.prog ⟨[4,5],[(0,[0,1,4]),(1,[0,1,4,5]),(2,[0,1,4,5]),(3,[0,1,4,5]),(4,[0,1,4,5,17]),(5,[0,1,4,5,21]),(6,[0,1,4,5]),(7,[0,1,4,5]),(8,[0,1,4,5]),(9,[0,1,4,5]),(10,[4,5]),(11,[4]),(1000000,[0,1,4,5])],[(8,[(some 5),(some 5),none,none,none,none,none,none,(some 5),(some 5)])]⟩ Tryz.f120 = some F120 := by kernel_rfl
theorem F120_fn:FnOK2 Tryz.prog 120 (.pl F120):=.pl Tryz.func120 (by kernel_rfl) F120_ok
theorem F121_ok : prepF Tryz.prog ⟨[4,5],[(0,[0,1,4]),(1,[0,1,4,5]),(2,[0,1,4,5,6]),(3,[0,1,4,5,6]),(4,[0,1,4,5,6]),(5,[0,1,4,5,6,21]),(6,[0,1,4,5,6,25]),(7,[0,1,4,5,6]),(8,[0,1,4,5,6]),(9,[0,1,4,5,6,7]),(10,[0,1,4,5,6,7,36]),(11,[4,5]),(12,[4]),(13,[0,1,4,5,6,7,8]),(14,[0,1,4,5,6,7,8,50]),(15,[4,5]),(16,[4]),(17,[0,1,4,5,6,8]),(18,[0,1,4,5,6,8]),(19,[0,1,4,5,6,8]),(20,[0,1,4,5,6,8]),(21,[0,1,4,5,6]),(22,[0,1,4,5,6]),(23,[0,1,4,5,6]),(24,[4,5]),(25,[4]),(1000000,[0,1,4,5,6])],[(22,[(some 5),(some 5),none,none,none,none,none,none,(some 5),(some 5)])]⟩ Tryz.f121 = some F121 := by kernel_rfl
theorem F121_fn:FnOK2 Tryz.prog 121 (.pl F121):=.pl Tryz.func121 (by kernel_rfl) F121_ok
abbrev N128:Note:=⟨[],[(0,[0,1]),(1,[0,1]),(2,[1]),(3,[4,5])],[]⟩
def F128:DF:=pF N128 Tryz.f128
theorem F128_ok:prepF Tryz.prog N128 Tryz.f128=some F128:=by kernel_rfl
theorem F128_fn:FnOK2 Tryz.prog 128 (.pl F128):=.pl Tryz.func128 (by kernel_rfl) F128_ok
abbrev N129:Note:=⟨[],[(0,[0,1]),(1,[0,1]),(2,[]),(3,[4])],[]⟩
def F129:DF:=pF N129 Tryz.f129
theorem F129_ok:prepF Tryz.prog N129 Tryz.f129=some F129:=by kernel_rfl
theorem F129_fn:FnOK2 Tryz.prog 129 (.pl F129):=.pl Tryz.func129 (by kernel_rfl) F129_ok
abbrev N130:Note:=⟨[],[(0,[0]),(1,[0,3]),(2,[0,3,4]),(3,[0,3,4]),(4,[2]),(5,[3,8]),(6,[2]),(7,[3,10]),(8,[2]),(9,[3,12]),(10,[2]),(11,[3,14]),(12,[2]),(13,[16]),(14,[2]),(15,[2])],[]⟩
def F130:DF:=pF N130 Tryz.f130
theorem F130_ok:prepF Tryz.prog N130 Tryz.f130=some F130:=by kernel_rfl
theorem F130_fn:FnOK2 Tryz.prog 130 (.pl F130):=.pl Tryz.func130 (by kernel_rfl) F130_ok
abbrev N131:Note:=⟨[],[(0,[0]),(1,[2])],[]⟩
def F131:DF:=pF N131 Tryz.f131
theorem F131_ok:prepF Tryz.prog N131 Tryz.f131=some F131:=by kernel_rfl
theorem F131_fn:FnOK2 Tryz.prog 131 (.pl F131):=.pl Tryz.func131 (by kernel_rfl) F131_ok
theorem F132_ok : prepF Tryz.prog ⟨[2],[(0,[0,2]),(1,[0,2,4,5,6,7,8]),(2,[0,2,4,5,6,7,21]),(3,[2,3]),(4,[2,4,5,6,7,25]),(5,[2,3]),(6,[2,4,5,6,8,9]),(7,[2,4,5,6,9,33]),(8,[2,3]),(9,[2,4,6,9,10]),(10,[2,4,9,10]),(11,[2,4,9,10,11]),(12,[2,4,9,11]),(13,[2,4,9,11,53]),(14,[2,3]),(15,[2,3])],[]⟩ Tryz.f132 = some F132 := by kernel_rfl
theorem F132_fn:FnOK2 Tryz.prog 132 (.pl F132):=.pl Tryz.func132 (by kernel_rfl) F132_ok
theorem F133_ok : prepF Tryz.prog ⟨[1],[(0,[1]),(1,[1,4]),(2,[1,4,9]),(3,[1,4,9]),(4,[1,4,9]),(5,[2,3]),(6,[1,4,42]),(7,[2,3]),(8,[1,51]),(9,[2,3]),(10,[1,5]),(11,[1,5,57]),(12,[1,5]),(13,[1,5,62]),(14,[5]),(15,[5,71]),(16,[2,3]),(17,[2,3])],[]⟩ Tryz.f133 = some F133 := by kernel_rfl
theorem F133_fn:FnOK2 Tryz.prog 133 (.pl F133):=.pl Tryz.func133 (by kernel_rfl) F133_ok
theorem F134_ok : prepF Tryz.prog ⟨[],[(0,[0]),(1,[0,33]),(2,[2]),(3,[2])],[]⟩ Tryz.f134 = some F134 := by kernel_rfl
theorem F134_fn:FnOK2 Tryz.prog 134 (.pl F134):=.pl Tryz.func134 (by kernel_rfl) F134_ok
theorem F135_ok : prepF Tryz.prog ⟨[],[(0,[0]),(1,[0,34]),(2,[2]),(3,[0,37]),(4,[2]),(5,[0,3]),(6,[2])],[]⟩ Tryz.f135 = some F135 := by kernel_rfl
theorem F135_fn:FnOK2 Tryz.prog 135 (.pl F135):=.pl Tryz.func135 (by kernel_rfl) F135_ok
theorem F136_ok : prepF Tryz.prog ⟨[],[(0,[0]),(1,[0,6]),(2,[2,3]),(3,[0,30]),(4,[2,3]),(5,[0,4]),(6,[0,4,51]),(7,[2,3]),(8,[2,3])],[]⟩ Tryz.f136 = some F136 := by kernel_rfl
theorem F136_fn:FnOK2 Tryz.prog 136 (.pl F136):=.pl Tryz.func136 (by kernel_rfl) F136_ok
theorem F137_ok : prepF Tryz.prog ⟨[],[(0,[0,1]),(1,[4,5,6])],[]⟩ Tryz.f137 = some F137 := by kernel_rfl
theorem F137_fn:FnOK2 Tryz.prog 137 (.pl F137):=.pl Tryz.func137 (by kernel_rfl) F137_ok
theorem F138_ok : prepF Tryz.prog ⟨[],[(0,[0]),(1,[0,7]),(2,[2,3]),(3,[0,2,3,4]),(4,[0,2,3,4,22]),(5,[2,3]),(6,[0,2,3,4,5]),(7,[0,2,3,4,5,25]),(8,[0,2,3,4,5]),(9,[0,2,3,4,5,32]),(10,[2,3]),(11,[0,2,3,4,5]),(12,[2,3,48]),(13,[2,3]),(14,[2,3]),(1000000,[0,2,3,4,5])],[]⟩ Tryz.f138 = some F138 := by kernel_rfl
theorem F138_fn:FnOK2 Tryz.prog 138 (.pl F138):=.pl Tryz.func138 (by kernel_rfl) F138_ok
theorem F139_ok : prepF Tryz.prog ⟨[],[(0,[0]),(1,[0,11]),(2,[2,3,4]),(3,[0,15]),(4,[2,3,4]),(5,[0,5]),(6,[0,5,6]),(7,[0,5,6,20]),(8,[0,5,6,7]),(9,[0,5,6]),(10,[0,5,6]),(11,[0,5,6,7,30]),(12,[2,3,4]),(13,[0,5,6,7,37]),(14,[2,3,4]),(15,[0,5,6,7,42]),(16,[0,5,6,8,9]),(17,[0,5,6,8,9,54]),(18,[2,3,4]),(19,[0,5,6,9]),(20,[0,5,6]),(21,[2,3,4]),(1000000,[0,5,6])],[]⟩ Tryz.f139 = some F139 := by kernel_rfl
theorem F139_fn:FnOK2 Tryz.prog 139 (.pl F139):=.pl Tryz.func139 (by kernel_rfl) F139_ok
theorem F140_ok : prepF Tryz.prog ⟨[],[(0,[0,7]),(1,[0]),(2,[])],[]⟩ Tryz.f140 = some F140 := by kernel_rfl
theorem F140_fn:FnOK2 Tryz.prog 140 (.pl F140):=.pl Tryz.func140 (by kernel_rfl) F140_ok
theorem F141_ok : prepF Tryz.prog ⟨[],[(0,[0]),(1,[2])],[]⟩ Tryz.f141 = some F141 := by kernel_rfl
theorem F141_fn:FnOK2 Tryz.prog 141 (.pl F141):=.pl Tryz.func141 (by kernel_rfl) F141_ok
theorem F142_ok : prepF Tryz.prog ⟨[],[(0,[0]),(1,[2])],[]⟩ Tryz.f142 = some F142 := by kernel_rfl
theorem F142_fn:FnOK2 Tryz.prog 142 (.pl F142):=.pl Tryz.func142 (by kernel_rfl) F142_ok
abbrev N143:Note:=⟨[2],[(0,[0,2]),(1,[0,2,5]),(2,[0,2,5,12]),(3,[2,3]),(4,[2,3])],[]⟩
def F143:DF:=pF N143 Tryz.f143
theorem F143_ok:prepF Tryz.prog N143 Tryz.f143=some F143:=by kernel_rfl
theorem F143_fn:FnOK2 Tryz.prog 143 (.pl F143):=.pl Tryz.func143 (by kernel_rfl) F143_ok
abbrev N144:Note:=⟨[2,3],[(0,[2,3]),(1,[2,3,5,6]),(2,[2,3,5,6,13]),(3,[4]),(4,[2,3,5,6,25]),(5,[4]),(6,[4])],[(1,[(some 2),(some 2),none,(some 3),(some 3),none,none,none])]⟩
def F144:DF:=pF N144 Tryz.f144
theorem F144_ok:prepF Tryz.prog N144 Tryz.f144=some F144:=by kernel_rfl
theorem F144_fn:FnOK2 Tryz.prog 144 (.pl F144):=.pl Tryz.func144 (by kernel_rfl) F144_ok
abbrev N145:Note:=⟨[],[(0,[0,1]),(1,[4])],[]⟩
def F145:DF:=pF N145 Tryz.f145
theorem F145_ok:prepF Tryz.prog N145 Tryz.f145=some F145:=by kernel_rfl
theorem F145_fn:FnOK2 Tryz.prog 145 (.pl F145):=.pl Tryz.func145 (by kernel_rfl) F145_ok
theorem F146_ok : prepF Tryz.prog ⟨[],[(0,[0,1]),(1,[0,1,14]),(2,[0,1]),(3,[4]),(1000000,[0,1])],[]⟩ Tryz.f146 = some F146 := by kernel_rfl
theorem F146_fn:FnOK2 Tryz.prog 146 (.pl F146):=.pl Tryz.func146 (by kernel_rfl) F146_ok
theorem F147_ok : prepF Tryz.prog ⟨[],[(0,[0]),(1,[2])],[]⟩ Tryz.f147 = some F147 := by kernel_rfl
theorem F147_fn:FnOK2 Tryz.prog 147 (.pl F147):=.pl Tryz.func147 (by kernel_rfl) F147_ok
theorem F148_ok : prepF Tryz.prog ⟨[],[(0,[0]),(1,[0,6]),(2,[2]),(3,[3]),(4,[3,4]),(5,[3,4,17]),(6,[4]),(7,[2])],[]⟩ Tryz.f148 = some F148 := by kernel_rfl
theorem F148_fn:FnOK2 Tryz.prog 148 (.pl F148):=.pl Tryz.func148 (by kernel_rfl) F148_ok
theorem F149_ok : prepF Tryz.prog ⟨[],[(0,[0,1]),(1,[0,1,6]),(2,[0,1,6,17]),(3,[4,5]),(4,[0,1,6,7]),(5,[0,1,6,7,8]),(6,[0,1,6,7,8,9]),(7,[0,1,6,7,8,9,19]),(8,[0,1,6,7]),(9,[0,1,6,7,8]),(10,[0,1,7,8,9]),(11,[0,1,6,7,8,9,28]),(12,[0,1,6,7]),(13,[0,1,6,7,8]),(14,[0,1,7,8,9]),(15,[0,1,6,7,8,9,37]),(16,[0,1,6,7]),(17,[0,1,6,7,8]),(18,[0,1,7,8,9]),(19,[0,1,7,8,9,55]),(20,[4,5]),(21,[0,1,7,8,9,10]),(22,[0,1,7,8,9,10,58]),(23,[0,1,7,8,9,10]),(24,[0,1,7,8,9,10,11]),(25,[0,1,7,8,9,10,11,72]),(26,[4,5]),(27,[0,1,7,8,9,10]),(28,[7,9,85]),(29,[4,5]),(30,[4,5]),(1000001,[0,1,7,8,9,10])],[]⟩ Tryz.f149 = some F149 := by kernel_rfl
theorem F149_fn:FnOK2 Tryz.prog 149 (.pl F149):=.pl Tryz.func149 (by kernel_rfl) F149_ok
abbrev N150:Note:=⟨[],[(0,[0,1,2,6]),(1,[0,1,2,6,7,8]),(2,[0,1,2,6,7,8,13]),(3,[0,1,2,6,8]),(4,[0,1,2,6,7,8]),(5,[0,1,2,6,7,8]),(6,[0,1,2,6]),(7,[0,1,2,6,30]),(8,[0,1,2,6,7,8]),(9,[0,1,2,6,7,8,35]),(10,[0,1,2,6,8]),(11,[0,1,2,6,7,8]),(12,[0,1,2,6,7,8]),(13,[0,1,2,6,7,9]),(14,[0,1,2,6,7,9,54]),(15,[0,1,2,6]),(16,[0,1,2,6]),(1000000,[0,1,2,6,7,8]),(1000002,[0,1,2,6]),(1000004,[0,1,2,6,7,8])],[]⟩
def F150:DF:=pF N150 Tryz.f150
theorem F150_ok:prepF Tryz.prog N150 Tryz.f150=some F150:=by kernel_rfl
theorem F150_fn:FnOK2 Tryz.prog 150 (.pl F150):=.pl Tryz.func150 (by kernel_rfl) F150_ok
theorem F152_ok : prepF Tryz.prog ⟨[],[(0,[0]),(1,[2])],[]⟩ Tryz.f152 = some F152 := by kernel_rfl
theorem F152_fn:FnOK2 Tryz.prog 152 (.pl F152):=.pl Tryz.func152 (by kernel_rfl) F152_ok
theorem F153_ok : prepF Tryz.prog ⟨[],[(0,[0,1,2]),(1,[0,1,2,15]),(2,[0,1,2,7]),(3,[0,1,2,7,8]),(4,[0,1,2,7,8,39]),(5,[0,1,2,7,8]),(6,[0,1,2,7,8]),(7,[0,1,2,53]),(8,[6]),(9,[0,1,2]),(10,[6]),(1000000,[0,1,2]),(1000002,[0,1,2,7,8])],[]⟩ Tryz.f153 = some F153 := by kernel_rfl
theorem F153_fn:FnOK2 Tryz.prog 153 (.pl F153):=.pl Tryz.func153 (by kernel_rfl) F153_ok
theorem F154_ok : prepF Tryz.prog ⟨[6],[(0,[0,1,6]),(1,[0,1,6,7]),(2,[0,6,7,8]),(3,[0,6,7,8,18]),(4,[0,6,7,8,9]),(5,[0,6,7,8]),(6,[0,6,7,8]),(7,[0,6,7,8,9,28]),(8,[4,5,6]),(9,[0,6,7,8,9,36]),(10,[0,6,7,8,10,11]),(11,[0,6,7,8,10,11,46]),(12,[4,5,6]),(13,[0,6,7,8,11]),(14,[0,6,7,8]),(15,[0,6,7,8,9,56]),(16,[4,5,6]),(17,[4,5,6]),(1000000,[0,6,7,8])],[]⟩ Tryz.f154 = some F154 := by kernel_rfl
theorem F154_fn:FnOK2 Tryz.prog 154 (.pl F154):=.pl Tryz.func154 (by kernel_rfl) F154_ok
theorem F155_ok : prepF Tryz.prog ⟨[],[(0,[0,7]),(1,[]),(2,[])],[]⟩ Tryz.f155 = some F155 := by kernel_rfl
theorem F155_fn:FnOK2 Tryz.prog 155 (.pl F155):=.pl Tryz.func155 (by kernel_rfl) F155_ok
theorem F156_ok : prepF Tryz.prog ⟨[],[(0,[0,1]),(1,[4])],[]⟩ Tryz.f156 = some F156 := by kernel_rfl
theorem F156_fn:FnOK2 Tryz.prog 156 (.pl F156):=.pl Tryz.func156 (by kernel_rfl) F156_ok
abbrev N159:Note:=⟨[],[(0,[0,6]),(1,[]),(2,[19])],[]⟩
def F159:DF:=pF N159 Tryz.f159
theorem F159_ok:prepF Tryz.prog N159 Tryz.f159=some F159:=by kernel_rfl
theorem F159_fn:FnOK2 Tryz.prog 159 (.pl F159):=.pl Tryz.func159 (by kernel_rfl) F159_ok
theorem F160_ok : prepF Tryz.prog ⟨[],[(0,[0,4]),(1,[4,7]),(2,[2,4,7]),(3,[2,4,7,13]),(4,[2,4,7]),(5,[2,4,7,8]),(6,[2,4,7,8,28]),(7,[2,3,4,5,6]),(8,[2,3,4,7]),(9,[2,3,4,7,36]),(10,[2,3,7,8]),(11,[2,3,7,8,41]),(12,[2,3,4,5,6]),(13,[2,3,4,7]),(14,[2,3,4,7,51]),(15,[2,3,4,5,6]),(16,[2,3,4,7,62]),(17,[2,3,4,5,6]),(18,[2,3,4,5]),(19,[2,3,4,5,9]),(20,[2,3,4,5,9,69]),(21,[2,3,4,5,9]),(22,[2,3,4,5,80]),(23,[2,3,4,5,6]),(24,[2,3,4,5,6])],[]⟩ Tryz.f160 = some F160 := by kernel_rfl
theorem F160_fn:FnOK2 Tryz.prog 160 (.pl F160):=.pl Tryz.func160 (by kernel_rfl) F160_ok
theorem F161_ok : prepF Tryz.prog ⟨[],[(0,[0]),(1,[0,4]),(2,[0,4]),(3,[0,4,14]),(4,[2,3]),(5,[4,5]),(6,[5,21]),(7,[2,3]),(8,[2,3])],[]⟩ Tryz.f161 = some F161 := by kernel_rfl
theorem F161_fn:FnOK2 Tryz.prog 161 (.pl F161):=.pl Tryz.func161 (by kernel_rfl) F161_ok
abbrev N162:Note:=⟨[],[(0,[0,1]),(1,[0,1,12]),(2,[4]),(3,[0,1,21]),(4,[4]),(5,[0,1,5,6]),(6,[0,1,5,31]),(7,[4]),(8,[4])],[]⟩
def F162:DF:=pF N162 Tryz.f162
theorem F162_ok:prepF Tryz.prog N162 Tryz.f162=some F162:=by kernel_rfl
theorem F162_fn:FnOK2 Tryz.prog 162 (.pl F162):=.pl Tryz.func162 (by kernel_rfl) F162_ok
abbrev N163:Note:=⟨[],[(0,[0,1]),(1,[0,1,12]),(2,[4]),(3,[0,1,21]),(4,[4]),(5,[0,1,5,6]),(6,[0,1,5,31]),(7,[4]),(8,[4])],[]⟩
def F163:DF:=pF N163 Tryz.f163
theorem F163_ok:prepF Tryz.prog N163 Tryz.f163=some F163:=by kernel_rfl
theorem F163_fn:FnOK2 Tryz.prog 163 (.pl F163):=.pl Tryz.func163 (by kernel_rfl) F163_ok
theorem F164_ok : prepF Tryz.prog ⟨[],[(0,[0]),(1,[0,3]),(2,[0,3,13]),(3,[0,3]),(4,[2]),(1000000,[0,3])],[]⟩ Tryz.f164 = some F164 := by kernel_rfl
theorem F164_fn:FnOK2 Tryz.prog 164 (.pl F164):=.pl Tryz.func164 (by kernel_rfl) F164_ok
abbrev N165:Note:=⟨[],[(0,[0]),(1,[2])],[]⟩
def F165:DF:=pF N165 Tryz.f165
theorem F165_ok:prepF Tryz.prog N165 Tryz.f165=some F165:=by kernel_rfl
theorem F165_fn:FnOK2 Tryz.prog 165 (.pl F165):=.pl Tryz.func165 (by kernel_rfl) F165_ok
theorem F166_ok : prepF Tryz.prog ⟨[],[(0,[0]),(1,[0,25]),(2,[2]),(3,[2])],[]⟩ Tryz.f166 = some F166 := by kernel_rfl
theorem F166_fn:FnOK2 Tryz.prog 166 (.pl F166):=.pl Tryz.func166 (by kernel_rfl) F166_ok
theorem F167_ok : prepF Tryz.prog ⟨[],[(0,[0,1,2]),(1,[6])],[]⟩ Tryz.f167 = some F167 := by kernel_rfl
theorem F167_fn:FnOK2 Tryz.prog 167 (.pl F167):=.pl Tryz.func167 (by kernel_rfl) F167_ok
theorem F168_ok : prepF Tryz.prog ⟨[],[(0,[0,1]),(1,[0,5]),(2,[0,5,6]),(3,[0,5,6]),(4,[0,5,6]),(5,[0,5,6]),(6,[4]),(7,[0,11]),(8,[25]),(9,[4]),(10,[4]),(11,[4])],[]⟩ Tryz.f168 = some F168 := by kernel_rfl
theorem F168_fn:FnOK2 Tryz.prog 168 (.pl F168):=.pl Tryz.func168 (by kernel_rfl) F168_ok
abbrev N169:Note:=⟨[],[(0,[0,1]),(1,[0,1,12]),(2,[4]),(3,[0,1,21]),(4,[4]),(5,[0,1,5,6]),(6,[0,1,5,34]),(7,[4]),(8,[4])],[]⟩
def F169:DF:=pF N169 Tryz.f169
theorem F169_ok:prepF Tryz.prog N169 Tryz.f169=some F169:=by kernel_rfl
theorem F169_fn:FnOK2 Tryz.prog 169 (.pl F169):=.pl Tryz.func169 (by kernel_rfl) F169_ok
theorem F170_ok : prepF Tryz.prog ⟨[],[(0,[0,1]),(1,[4])],[]⟩ Tryz.f170 = some F170 := by kernel_rfl
theorem F170_fn:FnOK2 Tryz.prog 170 (.pl F170):=.pl Tryz.func170 (by kernel_rfl) F170_ok
theorem F171_ok : prepF Tryz.prog ⟨[],[(0,[0,1]),(1,[0,1,7]),(2,[0,1,7,12]),(3,[4,5,6]),(4,[4,5,6])],[]⟩ Tryz.f171 = some F171 := by kernel_rfl
theorem F171_fn:FnOK2 Tryz.prog 171 (.pl F171):=.pl Tryz.func171 (by kernel_rfl) F171_ok
theorem F172_ok : prepF Tryz.prog ⟨[],[(0,[0]),(1,[0,5]),(2,[2,3,4]),(3,[0,11]),(4,[2,3,4]),(5,[0,18]),(6,[2,3,4]),(7,[0,25]),(8,[2,3,4]),(9,[2,3,4])],[]⟩ Tryz.f172 = some F172 := by kernel_rfl
theorem F172_fn:FnOK2 Tryz.prog 172 (.pl F172):=.pl Tryz.func172 (by kernel_rfl) F172_ok
theorem F173_ok : prepF Tryz.prog ⟨[],[(0,[0]),(1,[2])],[]⟩ Tryz.f173 = some F173 := by kernel_rfl
theorem F173_fn:FnOK2 Tryz.prog 173 (.pl F173):=.pl Tryz.func173 (by kernel_rfl) F173_ok
theorem F174_ok : prepF Tryz.prog ⟨[],[(0,[0]),(1,[0,5]),(2,[2,3]),(3,[0,7]),(4,[0,7,8]),(5,[0,7,8]),(6,[0,7,8]),(7,[2,3]),(8,[0,7,15]),(9,[2,3]),(10,[0,7,17]),(11,[2,3]),(12,[0,7,19]),(13,[2,3]),(14,[0,7,21]),(15,[2,3]),(16,[0,7,23]),(17,[2,3]),(18,[0,25]),(19,[2,3]),(20,[2,3])],[]⟩ Tryz.f174 = some F174 := by kernel_rfl
theorem F174_fn:FnOK2 Tryz.prog 174 (.pl F174):=.pl Tryz.func174 (by kernel_rfl) F174_ok
theorem F175_ok : prepF Tryz.prog ⟨[],[(0,[0,3]),(1,[0,3,5]),(2,[0,3,5,7]),(3,[4]),(4,[0,3,5,15]),(5,[4]),(6,[0,3,5,27]),(7,[4]),(8,[4])],[]⟩ Tryz.f175 = some F175 := by kernel_rfl
theorem F175_fn:FnOK2 Tryz.prog 175 (.pl F175):=.pl Tryz.func175 (by kernel_rfl) F175_ok
abbrev N176:Note:=⟨[],[(0,[0]),(1,[2])],[]⟩
def F176:DF:=pF N176 Tryz.f176
theorem F176_ok:prepF Tryz.prog N176 Tryz.f176=some F176:=by kernel_rfl
theorem F176_fn:FnOK2 Tryz.prog 176 (.pl F176):=.pl Tryz.func176 (by kernel_rfl) F176_ok
theorem F178_ok : prepF Tryz.prog ⟨[],[(0,[0]),(1,[0,3]),(2,[0,3,8]),(3,[0,3]),(4,[0,3]),(5,[3]),(6,[3,4]),(7,[3,4,5]),(8,[3,4,5,29]),(9,[3,4,5]),(10,[3,4,5]),(11,[2]),(1000000,[0,3]),(1000002,[3,4,5])],[]⟩ Tryz.f178 = some F178 := by kernel_rfl
theorem F178_fn:FnOK2 Tryz.prog 178 (.pl F178):=.pl Tryz.func178 (by kernel_rfl) F178_ok
theorem F179_ok : prepF Tryz.prog ⟨[],[(0,[0]),(1,[2])],[]⟩ Tryz.f179 = some F179 := by kernel_rfl
theorem F179_fn:FnOK2 Tryz.prog 179 (.pl F179):=.pl Tryz.func179 (by kernel_rfl) F179_ok
abbrev N180:Note:=⟨[],[(0,[0,1,2,3,8]),(1,[0,1,2,3,8,14]),(2,[0,1,2,3,8]),(3,[0,1,2,3,8,9]),(4,[0,1,2,3,8,9,34]),(5,[0,1,2,3,8,9]),(6,[0,1,2,3,8,9]),(1000000,[0,1,2,3,8]),(1000002,[0,1,2,3,8,9])],[]⟩
def F180:DF:=pF N180 Tryz.f180
theorem F180_ok:prepF Tryz.prog N180 Tryz.f180=some F180:=by kernel_rfl
theorem F180_fn:FnOK2 Tryz.prog 180 (.pl F180):=.pl Tryz.func180 (by kernel_rfl) F180_ok
abbrev N181:Note:=⟨[],[(0,[0,1,2,3,4,28]),(1,[0,1,3,4,10]),(2,[0,1,4,10,11]),(3,[0,1,4,10,11,33]),(4,[0,1,4,10,11,12]),(5,[0,1,4,10,11,12,50]),(6,[0,1,4,10,11]),(7,[0,1,4,10,11]),(8,[0,10,13]),(9,[0,10,13,58]),(10,[0,10,13]),(11,[0,10,13]),(12,[0,1,2,3,4,80]),(13,[0,2,4,14]),(14,[0,2,4,14,15]),(15,[0,2,4,14,15,85]),(16,[0,2,4,14,15,16]),(17,[0,2,4,14,15,16,103]),(18,[0,2,4,14,15]),(19,[0,2,4,14,15]),(20,[0,14,17]),(21,[0,14,17,110]),(22,[0,14,17]),(23,[0,14,17]),(24,[0,1,2,3,4,18]),(25,[0,1,2,3,4,18,19]),(26,[0,1,2,3,4,18,19]),(27,[0,1,2,3,4,18,19,140]),(28,[0,1,2,3,4,18,19,20]),(29,[0,1,2,3,4,18,19,20,21]),(30,[0,1,2,3,4,18,19,20]),(31,[0,1,2,3,4,18,19,20,21]),(32,[0,1,2,3,4,18,19,20,21,22]),(33,[0,1,2,3,4,18,19,20,21,22,151]),(34,[0,1,2,3,4,18,19,20,21,22,23]),(35,[0,1,2,3,4,18,19,20,21,22,23,171]),(36,[0,1,2,3,4,18,19,20,21,22]),(37,[0,1,2,3,4,18,19,20,21,22]),(38,[0,1,2,3,4,18,20,24]),(39,[0,1,2,3,4,18,20,24,185]),(40,[0,1,3,4,18,20,24]),(41,[0,1,3,4,18,20,24,199]),(42,[0,3,4,18,24]),(43,[0,3,4,18,24,213]),(44,[]),(1000000,[0,1,4,10,11]),(1000002,[0,10,13]),(1000004,[0,2,4,14,15]),(1000006,[0,14,17]),(1000008,[0,1,2,3,4,18,19,20,21,22])],[]⟩
def F181:DF:=pF N181 Tryz.f181
theorem F181_ok:prepF Tryz.prog N181 Tryz.f181=some F181:=by kernel_rfl
theorem F181_fn:FnOK2 Tryz.prog 181 (.pl F181):=.pl Tryz.func181 (by kernel_rfl) F181_ok
theorem F182_ok : prepF Tryz.prog ⟨[],[(0,[0,1]),(1,[0,1,13]),(2,[4,5]),(3,[0,1,6]),(4,[0,1,6,20]),(5,[4,5]),(6,[0,1,26]),(7,[4,5]),(8,[0,1,7]),(9,[0,1,7,32]),(10,[4,5]),(11,[0,1,7,38]),(12,[4,5]),(13,[0,1,7,62]),(14,[4,5]),(15,[7,8]),(16,[7,8,72]),(17,[4,5]),(18,[4,5])],[]⟩ Tryz.f182 = some F182 := by kernel_rfl
theorem F182_fn:FnOK2 Tryz.prog 182 (.pl F182):=.pl Tryz.func182 (by kernel_rfl) F182_ok
theorem F183_ok : prepF Tryz.prog ⟨[],[(0,[0]),(1,[0,3]),(2,[2]),(3,[0,10]),(4,[2]),(5,[0,23]),(6,[2]),(7,[2])],[]⟩ Tryz.f183 = some F183 := by kernel_rfl
theorem F183_fn:FnOK2 Tryz.prog 183 (.pl F183):=.pl Tryz.func183 (by kernel_rfl) F183_ok
theorem F185_ok : prepF Tryz.prog ⟨[],[(0,[0,1]),(1,[4])],[]⟩ Tryz.f185 = some F185 := by kernel_rfl
theorem F185_fn:FnOK2 Tryz.prog 185 (.pl F185):=.pl Tryz.func185 (by kernel_rfl) F185_ok
theorem F186_ok : prepF Tryz.prog ⟨[],[(0,[0,1]),(1,[4])],[]⟩ Tryz.f186 = some F186 := by kernel_rfl
theorem F186_fn:FnOK2 Tryz.prog 186 (.pl F186):=.pl Tryz.func186 (by kernel_rfl) F186_ok
abbrev N187:Note:=⟨[],[(0,[0]),(1,[0,4,5]),(2,[0,4,5,12]),(3,[2,3]),(4,[2,3])],[]⟩
def F187:DF:=pF N187 Tryz.f187
theorem F187_ok:prepF Tryz.prog N187 Tryz.f187=some F187:=by kernel_rfl
theorem F187_fn:FnOK2 Tryz.prog 187 (.pl F187):=.pl Tryz.func187 (by kernel_rfl) F187_ok
abbrev N188:Note:=⟨[],[(0,[0,1]),(1,[0,1,13]),(2,[0,1]),(3,[4]),(1000000,[0,1])],[]⟩
def F188:DF:=pF N188 Tryz.f188
theorem F188_ok:prepF Tryz.prog N188 Tryz.f188=some F188:=by kernel_rfl
theorem F188_fn:FnOK2 Tryz.prog 188 (.pl F188):=.pl Tryz.func188 (by kernel_rfl) F188_ok
abbrev N189:Note:=⟨[2],[(0,[0,2]),(1,[0,2,4]),(2,[0,2,4,9]),(3,[0,2,4]),(4,[0,2,4,5]),(5,[0,2,4,5,16]),(6,[2,3]),(7,[0,2,4]),(8,[2,3]),(1000000,[0,2,4])],[]⟩
def F189:DF:=pF N189 Tryz.f189
theorem F189_ok:prepF Tryz.prog N189 Tryz.f189=some F189:=by kernel_rfl
theorem F189_fn:FnOK2 Tryz.prog 189 (.pl F189):=.pl Tryz.func189 (by kernel_rfl) F189_ok
abbrev N190:Note:=⟨[],[(0,[0,1]),(1,[0,1,7]),(2,[0,1,12]),(3,[0,1]),(4,[4]),(1000000,[0,1])],[]⟩
def F190:DF:=pF N190 Tryz.f190
theorem F190_ok:prepF Tryz.prog N190 Tryz.f190=some F190:=by kernel_rfl
theorem F190_fn:FnOK2 Tryz.prog 190 (.pl F190):=.pl Tryz.func190 (by kernel_rfl) F190_ok
abbrev N191:Note:=⟨[],[(0,[0,1]),(1,[0,1,9]),(2,[0,1,5,6]),(3,[0,1,6,18]),(4,[0,1]),(5,[4]),(1000000,[0,1])],[]⟩
def F191:DF:=pF N191 Tryz.f191
theorem F191_ok:prepF Tryz.prog N191 Tryz.f191=some F191:=by kernel_rfl
theorem F191_fn:FnOK2 Tryz.prog 191 (.pl F191):=.pl Tryz.func191 (by kernel_rfl) F191_ok
abbrev N192:Note:=⟨[],[(0,[0,1]),(1,[0,1,16]),(2,[0,1]),(3,[4]),(1000000,[0,1])],[]⟩
def F192:DF:=pF N192 Tryz.f192
theorem F192_ok:prepF Tryz.prog N192 Tryz.f192=some F192:=by kernel_rfl
theorem F192_fn:FnOK2 Tryz.prog 192 (.pl F192):=.pl Tryz.func192 (by kernel_rfl) F192_ok
abbrev N193:Note:=⟨[],[(0,[0,1]),(1,[0,1,7]),(2,[0,1,15]),(3,[0,1]),(4,[4]),(1000000,[0,1])],[]⟩
def F193:DF:=pF N193 Tryz.f193
theorem F193_ok:prepF Tryz.prog N193 Tryz.f193=some F193:=by kernel_rfl
theorem F193_fn:FnOK2 Tryz.prog 193 (.pl F193):=.pl Tryz.func193 (by kernel_rfl) F193_ok
abbrev N194:Note:=⟨[],[(0,[0,1]),(1,[0,1,9]),(2,[0,1,5,6]),(3,[0,1,5,6,17]),(4,[0,1,5,6]),(5,[0,1,6,26]),(6,[0,1]),(7,[4]),(1000000,[0,1])],[]⟩
def F194:DF:=pF N194 Tryz.f194
theorem F194_ok:prepF Tryz.prog N194 Tryz.f194=some F194:=by kernel_rfl
theorem F194_fn:FnOK2 Tryz.prog 194 (.pl F194):=.pl Tryz.func194 (by kernel_rfl) F194_ok
theorem F195_ok : prepF Tryz.prog ⟨[],[(0,[0]),(1,[2])],[]⟩ Tryz.f195 = some F195 := by kernel_rfl
theorem F195_fn:FnOK2 Tryz.prog 195 (.pl F195):=.pl Tryz.func195 (by kernel_rfl) F195_ok
abbrev N196:Note:=⟨[],[(0,[0]),(1,[2])],[]⟩
def F196:DF:=pF N196 Tryz.f196
theorem F196_ok:prepF Tryz.prog N196 Tryz.f196=some F196:=by kernel_rfl
theorem F196_fn:FnOK2 Tryz.prog 196 (.pl F196):=.pl Tryz.func196 (by kernel_rfl) F196_ok
theorem F197_ok : prepF Tryz.prog ⟨[],[(0,[0,1]),(1,[4])],[]⟩ Tryz.f197 = some F197 := by kernel_rfl
theorem F197_fn:FnOK2 Tryz.prog 197 (.pl F197):=.pl Tryz.func197 (by kernel_rfl) F197_ok
theorem F198_ok : prepF Tryz.prog ⟨[],[(0,[0,1]),(1,[0,1,5]),(2,[0,1,5,16]),(3,[4]),(4,[0,1,5,24]),(5,[4]),(6,[0,1,5,31]),(7,[4]),(8,[0,1,5,36]),(9,[4]),(10,[0,1,5,6]),(11,[0,1,5,6,7]),(12,[0,1,5,6,7,8]),(13,[0,1,5,6,7,8,9]),(14,[0,1,5,6,7,8,9,10]),(15,[0,1,5,6,7,8,9,10,59]),(16,[0,1,5,6,7,8,9,10,64]),(17,[0,1,5,6,7,8,9,10,11]),(18,[0,1,5,6,7,8,9,10,11,73]),(19,[4]),(20,[0,1,5,6,7,8,9,10]),(21,[0,1,5,6,7,8,9,10,93]),(22,[4]),(23,[0,1,5,6,7,8,9,10]),(24,[0,1,5,6,7,8,9,10]),(25,[0,1,5,6,7,8,9,10,107]),(26,[8,12]),(27,[8,12,114]),(28,[4]),(29,[4]),(30,[0,1,5,6,7,8,9,10,132]),(31,[8,13]),(32,[8,13,139]),(33,[4]),(34,[4]),(35,[4]),(1000001,[0,1,5,6,7,8,9,10])],[]⟩ Tryz.f198 = some F198 := by kernel_rfl
theorem F198_fn:FnOK2 Tryz.prog 198 (.pl F198):=.pl Tryz.func198 (by kernel_rfl) F198_ok
theorem F199_ok : prepF Tryz.prog ⟨[],[(0,[0]),(1,[0,4]),(2,[0,4,14]),(3,[4,16]),(4,[2,3]),(5,[2,3]),(6,[0,4,25]),(7,[2,3]),(8,[4,5]),(9,[4,5,34]),(10,[2,3]),(11,[2,3])],[]⟩ Tryz.f199 = some F199 := by kernel_rfl
theorem F199_fn:FnOK2 Tryz.prog 199 (.pl F199):=.pl Tryz.func199 (by kernel_rfl) F199_ok
theorem F200_ok : prepF Tryz.prog ⟨[],[(0,[0,1]),(1,[3])],[]⟩ Tryz.f200 = some F200 := by kernel_rfl
theorem F200_fn:FnOK2 Tryz.prog 200 (.pl F200):=.pl Tryz.func200 (by kernel_rfl) F200_ok
abbrev N201:Note:=⟨[],[(0,[0,2,3,4,10]),(1,[0,2,4,10,11]),(2,[0,2,4,10,11,20]),(3,[0,2,4,10,11,23]),(4,[0,2,4,10,11]),(5,[0,2,4,10,11]),(6,[0,2,4,10,11]),(7,[0,2,4,10,11]),(8,[]),(1000000,[0,2,4,10,11])],[]⟩
def F201:DF:=pF N201 Tryz.f201
theorem F201_ok:prepF Tryz.prog N201 Tryz.f201=some F201:=by kernel_rfl
theorem F201_fn:FnOK2 Tryz.prog 201 (.pl F201):=.pl Tryz.func201 (by kernel_rfl) F201_ok
theorem F202_ok : prepF Tryz.prog ⟨[],[(0,[0]),(1,[0,3]),(2,[0,3,4]),(3,[0,3,4]),(4,[0,3,4]),(5,[2]),(6,[3,10]),(7,[2]),(8,[3,12]),(9,[2]),(10,[3,14]),(11,[2]),(12,[3,16]),(13,[2]),(14,[18]),(15,[2]),(16,[2])],[]⟩ Tryz.f202 = some F202 := by kernel_rfl
theorem F202_fn:FnOK2 Tryz.prog 202 (.pl F202):=.pl Tryz.func202 (by kernel_rfl) F202_ok
theorem F203_ok : prepF Tryz.prog ⟨[],[(0,[0,1,2]),(1,[0,1,2,7]),(2,[0,1,2,7,8]),(3,[0,1,2,7,8,11]),(4,[0,1,2,7,8]),(5,[0,1,2,7,8,28]),(6,[6]),(7,[0,1,2,7,8]),(8,[6]),(1000000,[0,1,2,7,8])],[]⟩ Tryz.f203 = some F203 := by kernel_rfl
theorem F203_fn:FnOK2 Tryz.prog 203 (.pl F203):=.pl Tryz.func203 (by kernel_rfl) F203_ok
theorem F204_ok : prepF Tryz.prog ⟨[],[(0,[0,1]),(1,[4])],[]⟩ Tryz.f204 = some F204 := by kernel_rfl
theorem F204_fn:FnOK2 Tryz.prog 204 (.pl F204):=.pl Tryz.func204 (by kernel_rfl) F204_ok
theorem F205_ok : prepF Tryz.prog ⟨[],[(0,[0,1]),(1,[0,1,7]),(2,[4]),(3,[4])],[]⟩ Tryz.f205 = some F205 := by kernel_rfl
theorem F205_fn:FnOK2 Tryz.prog 205 (.pl F205):=.pl Tryz.func205 (by kernel_rfl) F205_ok
abbrev N206:Note:=⟨[],[(0,[0]),(1,[0,4]),(2,[0,30]),(3,[0,5]),(4,[0,5,39]),(5,[0,5]),(6,[0,5,44]),(7,[2,3]),(8,[0,5,6]),(9,[5,6,47,48,49]),(10,[5,6,47,48,49,50]),(11,[5,6,8,47,48,49]),(12,[5,6,8,47,48,49]),(13,[5,6,8,47,48,49,56]),(14,[2,3]),(15,[5,6,47,48,49]),(16,[5,6,47,48,49]),(17,[6,66]),(18,[6]),(19,[2,3]),(20,[9,10]),(21,[2,3]),(1000000,[5,6,47,48,49])],[]⟩
def F206:DF:=pF N206 Tryz.f206
theorem F206_ok:prepF Tryz.prog N206 Tryz.f206=some F206:=by kernel_rfl
theorem F206_fn:FnOK2 Tryz.prog 206 (.pl F206):=.pl Tryz.func206 (by kernel_rfl) F206_ok
abbrev N207:Note:=⟨[],[(0,[0,1,2,3,4]),(1,[0,1,2,3,4,11]),(2,[0,1,2,3,4,11,12]),(3,[10]),(4,[0,1,2,3,4,11,19]),(5,[10]),(6,[0,1,2,3,4,11,26]),(7,[10]),(8,[0,1,3,4,34]),(9,[10]),(10,[10])],[]⟩
def F207:DF:=pF N207 Tryz.f207
theorem F207_ok:prepF Tryz.prog N207 Tryz.f207=some F207:=by kernel_rfl
theorem F207_fn:FnOK2 Tryz.prog 207 (.pl F207):=.pl Tryz.func207 (by kernel_rfl) F207_ok
abbrev N208:Note:=⟨[],[(0,[0,1]),(1,[4])],[]⟩
def F208:DF:=pF N208 Tryz.f208
theorem F208_ok:prepF Tryz.prog N208 Tryz.f208=some F208:=by kernel_rfl
theorem F208_fn:FnOK2 Tryz.prog 208 (.pl F208):=.pl Tryz.func208 (by kernel_rfl) F208_ok
abbrev N209:Note:=⟨[],[(0,[0]),(1,[0,10]),(2,[2,3]),(3,[2,3])],[]⟩
def F209:DF:=pF N209 Tryz.f209
theorem F209_ok:prepF Tryz.prog N209 Tryz.f209=some F209:=by kernel_rfl
theorem F209_fn:FnOK2 Tryz.prog 209 (.pl F209):=.pl Tryz.func209 (by kernel_rfl) F209_ok
abbrev N210:Note:=⟨[],[(0,[0,1]),(1,[4])],[]⟩
def F210:DF:=pF N210 Tryz.f210
theorem F210_ok:prepF Tryz.prog N210 Tryz.f210=some F210:=by kernel_rfl
theorem F210_fn:FnOK2 Tryz.prog 210 (.pl F210):=.pl Tryz.func210 (by kernel_rfl) F210_ok
abbrev N211:Note:=⟨[],[(0,[0]),(1,[0,4]),(2,[0,4,10]),(3,[2,3]),(4,[0,4,5]),(5,[0,2,4,5]),(6,[0,2,4,5,18]),(7,[2,3]),(8,[0,4,5,6]),(9,[0,4,5,6]),(10,[0,4,5,6,27]),(11,[0,4,5,6]),(12,[0,4,5,6,33]),(13,[0,4,5,35]),(14,[0,4,5]),(15,[2,3,4,5]),(16,[2,3,48]),(17,[2,3]),(18,[2,3]),(1000000,[0,4,5,6])],[]⟩
def F211:DF:=pF N211 Tryz.f211
theorem F211_ok:prepF Tryz.prog N211 Tryz.f211=some F211:=by kernel_rfl
theorem F211_fn:FnOK2 Tryz.prog 211 (.pl F211):=.pl Tryz.func211 (by kernel_rfl) F211_ok
abbrev N212:Note:=⟨[],[(0,[0,1]),(1,[0,1,11]),(2,[0,17]),(3,[4]),(4,[0,5]),(5,[0,5,6]),(6,[0,5,6,23]),(7,[0,5,6]),(8,[0,5,6,7]),(9,[0,5,7]),(10,[5,7,34]),(11,[5,7]),(12,[4]),(13,[4]),(14,[9]),(15,[4])],[]⟩
def F212:DF:=pF N212 Tryz.f212
theorem F212_ok:prepF Tryz.prog N212 Tryz.f212=some F212:=by kernel_rfl
theorem F212_fn:FnOK2 Tryz.prog 212 (.pl F212):=.pl Tryz.func212 (by kernel_rfl) F212_ok
theorem F213_ok : prepF Tryz.prog ⟨[],[(0,[0,1]),(1,[4])],[]⟩ Tryz.f213 = some F213 := by kernel_rfl
theorem F213_fn:FnOK2 Tryz.prog 213 (.pl F213):=.pl Tryz.func213 (by kernel_rfl) F213_ok
abbrev N215:Note:=⟨[],[(0,[0]),(1,[2])],[]⟩
def F215:DF:=pF N215 Tryz.f215
theorem F215_ok:prepF Tryz.prog N215 Tryz.f215=some F215:=by kernel_rfl
theorem F215_fn:FnOK2 Tryz.prog 215 (.pl F215):=.pl Tryz.func215 (by kernel_rfl) F215_ok
abbrev N216:Note:=⟨[],[(0,[0,1]),(1,[0,1,5,6]),(2,[0,1,5,6,7]),(3,[0,1,5,6,7,8]),(4,[0,1,5,6,7,8,9]),(5,[0,1,5,6,7,8,9,20]),(6,[0,1,5,6,7,8,9]),(7,[0,1,5,6,7,8,9]),(8,[0,1,5,6,7,8,39]),(9,[4]),(10,[0,1,5,6,7,8,10]),(11,[0,1,5,6,7,8,10,44]),(12,[0,1,5,6,7,8,10]),(13,[0,1,5,6,7,8,10]),(14,[0,1,5,6,7,8,10]),(15,[0,1,5,6,7,8,10]),(16,[0,1,5,6,7,8,10,77]),(17,[4]),(18,[4]),(1000000,[0,1,5,6,7,8,9]),(1000002,[0,1,5,6,7,8,10])],[]⟩
def F216:DF:=pF N216 Tryz.f216
theorem F216_ok:prepF Tryz.prog N216 Tryz.f216=some F216:=by kernel_rfl
theorem F216_fn:FnOK2 Tryz.prog 216 (.pl F216):=.pl Tryz.func216 (by kernel_rfl) F216_ok
theorem F217_ok : prepF Tryz.prog ⟨[],[(0,[0,1]),(1,[0,1,11]),(2,[4]),(3,[0,1,5]),(4,[0,5,12,13]),(5,[0,5,12,13,14]),(6,[0,5,6,12,13]),(7,[0,5,7,12,13]),(8,[0,5,7,12,13,21]),(9,[4]),(10,[0,5,12,13]),(11,[0,5,12,13]),(12,[4]),(1000000,[0,5,12,13])],[]⟩ Tryz.f217 = some F217 := by kernel_rfl
theorem F217_fn:FnOK2 Tryz.prog 217 (.pl F217):=.pl Tryz.func217 (by kernel_rfl) F217_ok
abbrev N218:Note:=⟨[],[(0,[0,1,2,3,10]),(1,[0,1,2,3,10,13]),(2,[0,1,2,3,10]),(3,[0,1,2,3,10]),(1000000,[0,1,2,3,10])],[]⟩
def F218:DF:=pF N218 Tryz.f218
theorem F218_ok:prepF Tryz.prog N218 Tryz.f218=some F218:=by kernel_rfl
theorem F218_fn:FnOK2 Tryz.prog 218 (.pl F218):=.pl Tryz.func218 (by kernel_rfl) F218_ok
theorem F219_ok : prepF Tryz.prog ⟨[],[(0,[0]),(1,[0,3]),(2,[2]),(3,[0,13]),(4,[2]),(5,[0,24]),(6,[2]),(7,[2])],[]⟩ Tryz.f219 = some F219 := by kernel_rfl
theorem F219_fn:FnOK2 Tryz.prog 219 (.pl F219):=.pl Tryz.func219 (by kernel_rfl) F219_ok
abbrev N220:Note:=⟨[],[(0,[0,1,2]),(1,[0,1,2,13]),(2,[6,7]),(3,[0,1,2,8]),(4,[0,1,2,8,16]),(5,[0,1,2,8,16,17]),(6,[0,1,2,8]),(7,[0,1,2,8,21]),(8,[0,1,2]),(9,[0,1,2,8]),(10,[0,1,2,8]),(11,[2,7,8,9]),(12,[2,7,8,9,38]),(13,[6,7]),(14,[2,8,9,41]),(15,[2,8,9]),(16,[8,9,10]),(17,[8,9,10,52]),(18,[6,7]),(19,[8,9,10,62]),(20,[6,7]),(21,[8,11]),(22,[11,69]),(23,[11]),(24,[6,7])],[]⟩
def F220:DF:=pF N220 Tryz.f220
theorem F220_ok:prepF Tryz.prog N220 Tryz.f220=some F220:=by kernel_rfl
theorem F220_fn:FnOK2 Tryz.prog 220 (.pl F220):=.pl Tryz.func220 (by kernel_rfl) F220_ok
abbrev N221:Note:=⟨[],[(0,[0,1]),(1,[4])],[]⟩
def F221:DF:=pF N221 Tryz.f221
theorem F221_ok:prepF Tryz.prog N221 Tryz.f221=some F221:=by kernel_rfl
theorem F221_fn:FnOK2 Tryz.prog 221 (.pl F221):=.pl Tryz.func221 (by kernel_rfl) F221_ok
abbrev N222:Note:=⟨[],[(0,[0,1]),(1,[4])],[]⟩
def F222:DF:=pF N222 Tryz.f222
theorem F222_ok:prepF Tryz.prog N222 Tryz.f222=some F222:=by kernel_rfl
theorem F222_fn:FnOK2 Tryz.prog 222 (.pl F222):=.pl Tryz.func222 (by kernel_rfl) F222_ok
abbrev N223:Note:=⟨[],[(0,[0,1,2]),(1,[6])],[]⟩
def F223:DF:=pF N223 Tryz.f223
theorem F223_ok:prepF Tryz.prog N223 Tryz.f223=some F223:=by kernel_rfl
theorem F223_fn:FnOK2 Tryz.prog 223 (.pl F223):=.pl Tryz.func223 (by kernel_rfl) F223_ok
abbrev N224:Note:=⟨[],[(0,[0,1,2]),(1,[6])],[]⟩
def F224:DF:=pF N224 Tryz.f224
theorem F224_ok:prepF Tryz.prog N224 Tryz.f224=some F224:=by kernel_rfl
theorem F224_fn:FnOK2 Tryz.prog 224 (.pl F224):=.pl Tryz.func224 (by kernel_rfl) F224_ok
abbrev N225:Note:=⟨[9],[(0,[0]),(1,[0,4]),(2,[0,4,16]),(3,[2,3]),(4,[0,4,5]),(5,[0,4,5,6]),(6,[0,4,5,6,23]),(7,[0,7]),(8,[2,3]),(9,[0,4,5,6,8]),(10,[0,4,5,8,9]),(11,[0,5,8,9,45]),(12,[2,3]),(13,[0,5,8,9,10]),(14,[0,5,8,10,57]),(15,[2,3]),(16,[0,5,8,10,59]),(17,[2,3]),(18,[0,5,8,10,11]),(19,[0,5,8,10,11,75]),(20,[2,3]),(21,[0,5,10,11,77]),(22,[2,3]),(23,[5,10,11,12]),(24,[5,10,11,12,98]),(25,[2,3]),(26,[2,3])],[]⟩
def F225:DF:=pF N225 Tryz.f225
theorem F225_ok:prepF Tryz.prog N225 Tryz.f225=some F225:=by kernel_rfl
theorem F225_fn:FnOK2 Tryz.prog 225 (.pl F225):=.pl Tryz.func225 (by kernel_rfl) F225_ok
abbrev N226:Note:=⟨[],[(0,[0,1]),(1,[0,7]),(2,[0,7,8]),(3,[0,7,8,9]),(4,[0,7,8,9]),(5,[0,7,8,9,26]),(6,[0,7,8,9,33]),(7,[0,7,8,9,11]),(8,[0,7,8,9,11,43]),(9,[4]),(10,[0,7,8,9]),(11,[0,7,8,9,12]),(12,[0,7,8,9,12,51]),(13,[0,7,8,9,12]),(14,[0,7,8,9,12,64]),(15,[4]),(16,[0,7,8,9,10]),(17,[0,7,8,9,10]),(18,[0,7,8,9,98]),(19,[4]),(20,[8,9,13]),(21,[8,9,13,108]),(22,[4]),(23,[0,7,8,9,14]),(24,[0,7,8,9,14,15]),(25,[0,7,8,9,14,15,124]),(26,[0,7,8,9,14,15]),(27,[0,7,8,9,14,15,139]),(28,[0,7,8,9,14,15,16]),(29,[0,7,8,9,14,15,16,143]),(30,[0,7,8,9,14,15,16]),(31,[0,7,8,9,14,15,16,156]),(32,[4]),(33,[4]),(34,[0,1,160]),(35,[4]),(36,[0,1,171]),(37,[175]),(38,[175,176,177]),(39,[5,6,175]),(40,[5,175,181]),(41,[4]),(42,[4]),(43,[0,1,183]),(44,[4]),(1000001,[0,7,8,9]),(1000003,[0,7,8,9,12]),(1000005,[0,7,8,9,14,15]),(1000007,[0,7,8,9,14,15,16]),(1000009,[175])],[]⟩
def F226:DF:=pF N226 Tryz.f226
theorem F226_ok:prepF Tryz.prog N226 Tryz.f226=some F226:=by kernel_rfl
theorem F226_fn:FnOK2 Tryz.prog 226 (.pl F226):=.pl Tryz.func226 (by kernel_rfl) F226_ok
abbrev N227:Note:=⟨[],[(0,[0]),(1,[2])],[]⟩
def F227:DF:=pF N227 Tryz.f227
theorem F227_ok:prepF Tryz.prog N227 Tryz.f227=some F227:=by kernel_rfl
theorem F227_fn:FnOK2 Tryz.prog 227 (.pl F227):=.pl Tryz.func227 (by kernel_rfl) F227_ok
abbrev N228:Note:=⟨[],[(0,[0]),(1,[0,4]),(2,[2]),(3,[2])],[]⟩
def F228:DF:=pF N228 Tryz.f228
theorem F228_ok:prepF Tryz.prog N228 Tryz.f228=some F228:=by kernel_rfl
theorem F228_fn:FnOK2 Tryz.prog 228 (.pl F228):=.pl Tryz.func228 (by kernel_rfl) F228_ok
abbrev N229:Note:=⟨[],[(0,[0]),(1,[0,3]),(2,[2])],[]⟩
def F229:DF:=pF N229 Tryz.f229
theorem F229_ok:prepF Tryz.prog N229 Tryz.f229=some F229:=by kernel_rfl
theorem F229_fn:FnOK2 Tryz.prog 229 (.pl F229):=.pl Tryz.func229 (by kernel_rfl) F229_ok
abbrev N230:Note:=⟨[],[(0,[0,1,4]),(1,[0,1,4,20]),(2,[0,1,4,5]),(3,[0,1,4,5]),(4,[0,1,4,6,7]),(5,[0,1,4,6,8,9]),(6,[0,1,4,8,9,10,11]),(7,[0,1,4,8,10,11]),(8,[0,1,4,10,11]),(9,[0,1,4,10]),(10,[0,1,4]),(11,[0,1,4]),(12,[0,4,12]),(13,[0,4,12,99]),(14,[0,4,12,13]),(15,[0,4,12,13]),(16,[0,4,12,14,15]),(17,[0,4,12,14]),(18,[0,4,12]),(19,[0,4,12]),(20,[0,4,12,139]),(21,[0,4,12,16]),(22,[0,4,12,16]),(23,[0,4,12]),(24,[0,4,12]),(25,[0,12,161]),(26,[]),(1000000,[0,1,4])],[]⟩
def F230:DF:=pF N230 Tryz.f230
theorem F230_ok:prepF Tryz.prog N230 Tryz.f230=some F230:=by kernel_rfl
theorem F230_fn:FnOK2 Tryz.prog 230 (.pl F230):=.pl Tryz.func230 (by kernel_rfl) F230_ok
abbrev N231:Note:=⟨[],[(0,[0,1,2,3,4,10,11]),(1,[0,1,2,3,4,10,11,28]),(2,[0,1,2,3,4,10,11]),(3,[0,1,2,3,4,10,11,12]),(4,[0,1,2,3,4,10,11,12,13]),(5,[0,1,2,3,4,10,11,12,13,30]),(6,[0,1,2,3,4,10,11,12,13]),(7,[0,1,2,3,4,10,11,12,13,34]),(8,[0,1,2,3,4,10,11,12,13,14]),(9,[0,1,2,3,4,10,11,12,13,14,15]),(10,[0,1,3,4,10,11,12,13,14,15,16]),(11,[0,1,3,4,10,11,12,13,14,15,16,46]),(12,[0,1,3,4,10,11,12,13,14,15,16]),(13,[0,1,3,4,10,11,12,13,14,15,16]),(14,[0,1,3,4,10,11,12,13,14,15,16]),(15,[0,1,3,4,10,11,12,13]),(16,[0,3,4,10,11,12,13]),(17,[0,1,3,4,10,11,12,13,17]),(18,[0,1,3,4,10,11,12,13,17,68]),(19,[0,1,3,4,10,11,12,13,17]),(20,[0,1,3,4,10,11,12,13,17,18]),(21,[0,3,4,10,11,12,13,17,18]),(22,[0,1,3,4,10,11,12,13,17]),(23,[0,1,3,4,10,11,12,13]),(24,[0,3,4,10,11,12,13]),(25,[0,4,10,11,12,13,89]),(26,[0,4,10,11,12,13]),(27,[0,4,10,11,12,13]),(28,[0,10,11,12,13,94]),(29,[10,11]),(30,[10,11]),(1000000,[0,1,3,4,10,11,12,13,14,15,16]),(1000002,[0,1,3,4,10,11,12,13,17])],[]⟩
def F231:DF:=pF N231 Tryz.f231
theorem F231_ok:prepF Tryz.prog N231 Tryz.f231=some F231:=by kernel_rfl
theorem F231_fn:FnOK2 Tryz.prog 231 (.pl F231):=.pl Tryz.func231 (by kernel_rfl) F231_ok
abbrev N233:Note:=⟨[],[(0,[0]),(1,[0,4]),(2,[0,4,5]),(3,[0,4,5,12]),(4,[0,4,5]),(5,[0,4,5]),(6,[0,4,6,7]),(7,[4,6,7,8]),(8,[4,6,7,8,25]),(9,[4,6,7,8]),(10,[4,6,7,8,30]),(11,[4,6,7,8]),(12,[4,6,7,8]),(13,[2,3]),(1000000,[0,4,5]),(1000002,[4,6,7,8])],[]⟩
def F233:DF:=pF N233 Tryz.f233
theorem F233_ok:prepF Tryz.prog N233 Tryz.f233=some F233:=by kernel_rfl
theorem F233_fn:FnOK2 Tryz.prog 233 (.pl F233):=.pl Tryz.func233 (by kernel_rfl) F233_ok
theorem F234_ok : prepF Tryz.prog ⟨[],[(0,[0]),(1,[0,3]),(2,[2]),(3,[0,13]),(4,[2]),(5,[0,24]),(6,[2]),(7,[2])],[]⟩ Tryz.f234 = some F234 := by kernel_rfl
theorem F234_fn:FnOK2 Tryz.prog 234 (.pl F234):=.pl Tryz.func234 (by kernel_rfl) F234_ok
abbrev N235:Note:=⟨[],[(0,[0,1,2]),(1,[0,1,2,19]),(2,[6,7]),(3,[0,1,2,8]),(4,[0,1,2,8,9]),(5,[6,7]),(6,[0,1,2,8,9,25]),(7,[0,2,8,9,32]),(8,[0,1,2,8,9]),(9,[0,1,2,8,9,37]),(10,[0,1,2,8,9]),(11,[0,1,2,8,9]),(12,[0,2,8,9,40]),(13,[0,1,2,8,9]),(14,[0,1,2,8,9]),(15,[0,2,8,9,52]),(16,[0,1,2,8,9]),(17,[0,1,2,8,9]),(18,[0,2,8,9,64]),(19,[0,1,2,8,9]),(20,[0,1,2,8,9]),(21,[0,1,2,8,9,77]),(22,[0,1,2,8,9]),(23,[0,1,2,8,9,83]),(24,[6,7]),(25,[0,1,2,8,9]),(26,[0,1,2,8,9,85]),(27,[0,1,2,8,9,10]),(28,[0,1,2,8,9,85,90]),(29,[0,1,2,8,9,10]),(30,[0,1,2,8,9,92]),(31,[0,1,2,8,9,10]),(32,[0,1,8,9,10,11]),(33,[0,1,8,9,10,11,12]),(34,[0,1,8,9,10,11,12,13]),(35,[1,8,9,10,11,12,13,99,100,101]),(36,[1,8,9,10,11,12,13,99,100,101,102]),(37,[1,8,9,10,11,12,13,15,99,100,101]),(38,[1,8,9,10,11,12,13,15,99,100,101]),(39,[6,7]),(40,[1,8,9,10,11,12,13,15,99,100,101,106]),(41,[1,8,9,10,11,12,13,99,100,101]),(42,[1,8,9,10,11,12,13,15,99,100,101,112]),(43,[1,8,9,10,11,12,13,16,99,100,101]),(44,[1,8,9,10,11,12,13,15,99,100,101,121]),(45,[1,8,9,10,11,12,13,16,99,100,101]),(46,[1,8,9,10,11,12,13,16,99,100,101,137]),(47,[6,7]),(48,[1,8,9,10,11,12,13,16,99,100,101,141]),(49,[6,7]),(50,[1,8,9,10,11,12,13,16,99,100,101]),(51,[1,8,9,10,11,12,13,17,99,100,101]),(52,[1,8,9,10,11,12,17,99,100,101,159]),(53,[6,7]),(54,[1,8,9,10,11,12,13,99,100,101]),(55,[1,8,9,10,11,12,13,99,100,101]),(56,[13,169]),(57,[6,7]),(58,[6,7]),(1000003,[1,8,9,10,11,12,13,99,100,101])],[]⟩
def F235:DF:=pF N235 Tryz.f235
theorem F235_ok:prepF Tryz.prog N235 Tryz.f235=some F235:=by kernel_rfl
theorem F235_fn:FnOK2 Tryz.prog 235 (.pl F235):=.pl Tryz.func235 (by kernel_rfl) F235_ok
abbrev N236:Note:=⟨[],[(0,[0]),(1,[0,6]),(2,[2]),(3,[0,3]),(4,[3]),(5,[2])],[]⟩
def F236:DF:=pF N236 Tryz.f236
theorem F236_ok:prepF Tryz.prog N236 Tryz.f236=some F236:=by kernel_rfl
theorem F236_fn:FnOK2 Tryz.prog 236 (.pl F236):=.pl Tryz.func236 (by kernel_rfl) F236_ok
abbrev N237:Note:=⟨[],[(0,[0]),(1,[2])],[]⟩
def F237:DF:=pF N237 Tryz.f237
theorem F237_ok:prepF Tryz.prog N237 Tryz.f237=some F237:=by kernel_rfl
theorem F237_fn:FnOK2 Tryz.prog 237 (.pl F237):=.pl Tryz.func237 (by kernel_rfl) F237_ok
abbrev N238:Note:=⟨[],[(0,[0,1]),(1,[4])],[]⟩
def F238:DF:=pF N238 Tryz.f238
theorem F238_ok:prepF Tryz.prog N238 Tryz.f238=some F238:=by kernel_rfl
theorem F238_fn:FnOK2 Tryz.prog 238 (.pl F238):=.pl Tryz.func238 (by kernel_rfl) F238_ok
abbrev N239:Note:=⟨[],[(0,[0]),(1,[0,3]),(2,[2]),(3,[10]),(4,[2]),(5,[2])],[]⟩
def F239:DF:=pF N239 Tryz.f239
theorem F239_ok:prepF Tryz.prog N239 Tryz.f239=some F239:=by kernel_rfl
theorem F239_fn:FnOK2 Tryz.prog 239 (.pl F239):=.pl Tryz.func239 (by kernel_rfl) F239_ok
abbrev N240:Note:=⟨[],[(0,[0]),(1,[2])],[]⟩
def F240:DF:=pF N240 Tryz.f240
theorem F240_ok:prepF Tryz.prog N240 Tryz.f240=some F240:=by kernel_rfl
theorem F240_fn:FnOK2 Tryz.prog 240 (.pl F240):=.pl Tryz.func240 (by kernel_rfl) F240_ok
abbrev N241:Note:=⟨[],[(0,[0,2]),(1,[0,2,4]),(2,[0]),(3,[0,2]),(4,[0,2,8]),(5,[0,2]),(6,[0,2]),(7,[0,2,14]),(8,[0,2]),(9,[0,2]),(10,[2])],[]⟩
def F241:DF:=pF N241 Tryz.f241
theorem F241_ok:prepF Tryz.prog N241 Tryz.f241=some F241:=by kernel_rfl
theorem F241_fn:FnOK2 Tryz.prog 241 (.pl F241):=.pl Tryz.func241 (by kernel_rfl) F241_ok
abbrev N242:Note:=⟨[],[(0,[0]),(1,[3]),(2,[2]),(3,[2])],[]⟩
def F242:DF:=pF N242 Tryz.f242
theorem F242_ok:prepF Tryz.prog N242 Tryz.f242=some F242:=by kernel_rfl
theorem F242_fn:FnOK2 Tryz.prog 242 (.pl F242):=.pl Tryz.func242 (by kernel_rfl) F242_ok
abbrev N243:Note:=⟨[],[(0,[0]),(1,[2])],[]⟩
def F243:DF:=pF N243 Tryz.f243
theorem F243_ok:prepF Tryz.prog N243 Tryz.f243=some F243:=by kernel_rfl
theorem F243_fn:FnOK2 Tryz.prog 243 (.pl F243):=.pl Tryz.func243 (by kernel_rfl) F243_ok
abbrev N244:Note:=⟨[],[(0,[0]),(1,[2]),(2,[2])],[]⟩
def F244:DF:=pF N244 Tryz.f244
theorem F244_ok:prepF Tryz.prog N244 Tryz.f244=some F244:=by kernel_rfl
theorem F244_fn:FnOK2 Tryz.prog 244 (.pl F244):=.pl Tryz.func244 (by kernel_rfl) F244_ok
abbrev N245:Note:=⟨[],[(0,[0]),(1,[2])],[]⟩
def F245:DF:=pF N245 Tryz.f245
theorem F245_ok:prepF Tryz.prog N245 Tryz.f245=some F245:=by kernel_rfl
theorem F245_fn:FnOK2 Tryz.prog 245 (.pl F245):=.pl Tryz.func245 (by kernel_rfl) F245_ok
abbrev N246:Note:=⟨[],[(0,[0]),(1,[0,3]),(2,[0,3,4]),(3,[0,3,4,18]),(4,[0,3,4]),(5,[0,3,4,5]),(6,[0,3,4,5,46]),(7,[0,4]),(8,[0,3,4]),(9,[0,3,4,5]),(10,[0,3,4,5,54]),(11,[0,3,4,5]),(12,[0,3,4,5,83]),(13,[0,3,4,5]),(14,[0,3,4,5,87]),(15,[0,4,5,89]),(16,[2]),(17,[0,3,4,5]),(18,[0,4,5,91]),(19,[2]),(20,[0,3,4,5]),(21,[2]),(1000000,[0,3,4,5])],[]⟩
def F246:DF:=pF N246 Tryz.f246
theorem F246_ok:prepF Tryz.prog N246 Tryz.f246=some F246:=by kernel_rfl
theorem F246_fn:FnOK2 Tryz.prog 246 (.pl F246):=.pl Tryz.func246 (by kernel_rfl) F246_ok
abbrev N247:Note:=⟨[],[(0,[0]),(1,[0,4]),(2,[2]),(3,[2])],[]⟩
def F247:DF:=pF N247 Tryz.f247
theorem F247_ok:prepF Tryz.prog N247 Tryz.f247=some F247:=by kernel_rfl
theorem F247_fn:FnOK2 Tryz.prog 247 (.pl F247):=.pl Tryz.func247 (by kernel_rfl) F247_ok
abbrev N248:Note:=⟨[],[(0,[0]),(1,[0,4]),(2,[2]),(3,[2])],[]⟩
def F248:DF:=pF N248 Tryz.f248
theorem F248_ok:prepF Tryz.prog N248 Tryz.f248=some F248:=by kernel_rfl
theorem F248_fn:FnOK2 Tryz.prog 248 (.pl F248):=.pl Tryz.func248 (by kernel_rfl) F248_ok
noncomputable def tab : List (Nat × DX) := [(3,.pl F3),(9,.pl F9),(15,.pl F15),(16,.pl F16),(17,.pl F17),(18,.pl F18),(19,.pl F19),(20,.pl F20),(21,.pl F21),(22,.pl F22),(23,.pl F23),(24,.pl F24),(25,.pl F25),(31,.pl F31),(32,.pl F32),(34,.pl F34),(39,.pl F39),(40,.pl F40),(41,.pl F41),(47,.pl F47),(48,.pl F48),(49,.pl F49),(50,.pl F50),(51,.df F51),(52,.pl F52),(53,.pl F53),(54,.pl F54),(55,.pl F55),(56,.pl F56),(57,.pl F57),(58,.pl F58),(59,.pl F59),(61,.pl F61),(63,.pl F63),(64,.pl F64),(69,.pl F69),(70,.pl F70),(71,.pl F71),(72,.pl F72),(73,.pl F73),(75,.pl F75),(79,.pl F79),(80,.pl F80),(81,.pl F81),(82,.pl F82),(83,.pl F83),(84,.pl F84),(85,.pl F85),(86,.pl F86),(87,.rc F87),(88,.pl F88),(89,.pl F89),(90,.pl F90),(91,.pl F91),(92,.pl F92),(93,.pl F93),(94,.pl F94),(95,.pl F95),(96,.pl F96),(97,.pl F97),(98,.pl F98),(99,.pl F99),(100,.pl F100),(101,.pl F101),(102,.pl F102),(103,.pl F103),(104,.pl F104),(106,.pl F106),(107,.pl F107),(108,.pl F108),(109,.pl F109),(110,.pl F110),(111,.pl F111),(112,.pl F112),(113,.pl F113),(116,.pl F116),(117,.pl F117),(118,.pl F118),(119,.pl F119),(120,.pl F120),(121,.pl F121),(128,.pl F128),(129,.pl F129),(130,.pl F130),(131,.pl F131),(132,.pl F132),(133,.pl F133),(134,.pl F134),(135,.pl F135),(136,.pl F136),(137,.pl F137),(138,.pl F138),(139,.pl F139),(140,.pl F140),(141,.pl F141),(142,.pl F142),(143,.pl F143),(144,.pl F144),(145,.pl F145),(146,.pl F146),(147,.pl F147),(148,.pl F148),(149,.pl F149),(150,.pl F150),(152,.pl F152),(153,.pl F153),(154,.pl F154),(155,.pl F155),(156,.pl F156),(159,.pl F159),(160,.pl F160),(161,.pl F161),(162,.pl F162),(163,.pl F163),(164,.pl F164),(165,.pl F165),(166,.pl F166),(167,.pl F167),(168,.pl F168),(169,.pl F169),(170,.pl F170),(171,.pl F171),(172,.pl F172),(173,.pl F173),(174,.pl F174),(175,.pl F175),(176,.pl F176),(178,.pl F178),(179,.pl F179),(180,.pl F180),(181,.pl F181),(182,.pl F182),(183,.pl F183),(185,.pl F185),(186,.pl F186),(187,.pl F187),(188,.pl F188),(189,.pl F189),(190,.pl F190),(191,.pl F191),(192,.pl F192),(193,.pl F193),(194,.pl F194),(195,.pl F195),(196,.pl F196),(197,.pl F197),(198,.pl F198),(199,.pl F199),(200,.pl F200),(201,.pl F201),(202,.pl F202),(203,.pl F203),(204,.pl F204),(205,.pl F205),(206,.pl F206),(207,.pl F207),(208,.pl F208),(209,.pl F209),(210,.pl F210),(211,.pl F211),(212,.pl F212),(213,.pl F213),(215,.pl F215),(216,.pl F216),(217,.pl F217),(218,.pl F218),(219,.pl F219),(220,.pl F220),(221,.pl F221),(222,.pl F222),(223,.pl F223),(224,.pl F224),(225,.pl F225),(226,.pl F226),(227,.pl F227),(228,.pl F228),(229,.pl F229),(230,.pl F230),(231,.pl F231),(233,.pl F233),(234,.pl F234),(235,.pl F235),(236,.pl F236),(237,.pl F237),(238,.pl F238),(239,.pl F239),(240,.pl F240),(241,.pl F241),(242,.pl F242),(243,.pl F243),(244,.pl F244),(245,.pl F245),(246,.pl F246),(247,.pl F247),(248,.pl F248)]
theorem tabOK : TabOK2 Tryz.prog tab :=
 .cons F3_fn <|
 .cons F9_fn <|
 .cons F15_fn <|
 .cons F16_fn <|
 .cons F17_fn <|
 .cons F18_fn <|
 .cons F19_fn <|
 .cons F20_fn <|
 .cons F21_fn <|
 .cons F22_fn <|
 .cons F23_fn <|
 .cons F24_fn <|
 .cons F25_fn <|
 .cons F31_fn <|
 .cons F32_fn <|
 .cons F34_fn <|
 .cons F39_fn <|
 .cons F40_fn <|
 .cons F41_fn <|
 .cons F47_fn <|
 .cons F48_fn <|
 .cons F49_fn <|
 .cons F50_fn <|
 .cons F51_fn <|
 .cons F52_fn <|
 .cons F53_fn <|
 .cons F54_fn <|
 .cons F55_fn <|
 .cons F56_fn <|
 .cons F57_fn <|
 .cons F58_fn <|
 .cons F59_fn <|
 .cons F61_fn <|
 .cons F63_fn <|
 .cons F64_fn <|
 .cons F69_fn <|
 .cons F70_fn <|
 .cons F71_fn <|
 .cons F72_fn <|
 .cons F73_fn <|
 .cons F75_fn <|
 .cons F79_fn <|
 .cons F80_fn <|
 .cons F81_fn <|
 .cons F82_fn <|
 .cons F83_fn <|
 .cons F84_fn <|
 .cons F85_fn <|
 .cons F86_fn <|
 .cons F87_fn <|
 .cons F88_fn <|
 .cons F89_fn <|
 .cons F90_fn <|
 .cons F91_fn <|
 .cons F92_fn <|
 .cons F93_fn <|
 .cons F94_fn <|
 .cons F95_fn <|
 .cons F96_fn <|
 .cons F97_fn <|
 .cons F98_fn <|
 .cons F99_fn <|
 .cons F100_fn <|
 .cons F101_fn <|
 .cons F102_fn <|
 .cons F103_fn <|
 .cons F104_fn <|
 .cons F106_fn <|
 .cons F107_fn <|
 .cons F108_fn <|
 .cons F109_fn <|
 .cons F110_fn <|
 .cons F111_fn <|
 .cons F112_fn <|
 .cons F113_fn <|
 .cons F116_fn <|
 .cons F117_fn <|
 .cons F118_fn <|
 .cons F119_fn <|
 .cons F120_fn <|
 .cons F121_fn <|
 .cons F128_fn <|
 .cons F129_fn <|
 .cons F130_fn <|
 .cons F131_fn <|
 .cons F132_fn <|
 .cons F133_fn <|
 .cons F134_fn <|
 .cons F135_fn <|
 .cons F136_fn <|
 .cons F137_fn <|
 .cons F138_fn <|
 .cons F139_fn <|
 .cons F140_fn <|
 .cons F141_fn <|
 .cons F142_fn <|
 .cons F143_fn <|
 .cons F144_fn <|
 .cons F145_fn <|
 .cons F146_fn <|
 .cons F147_fn <|
 .cons F148_fn <|
 .cons F149_fn <|
 .cons F150_fn <|
 .cons F152_fn <|
 .cons F153_fn <|
 .cons F154_fn <|
 .cons F155_fn <|
 .cons F156_fn <|
 .cons F159_fn <|
 .cons F160_fn <|
 .cons F161_fn <|
 .cons F162_fn <|
 .cons F163_fn <|
 .cons F164_fn <|
 .cons F165_fn <|
 .cons F166_fn <|
 .cons F167_fn <|
 .cons F168_fn <|
 .cons F169_fn <|
 .cons F170_fn <|
 .cons F171_fn <|
 .cons F172_fn <|
 .cons F173_fn <|
 .cons F174_fn <|
 .cons F175_fn <|
 .cons F176_fn <|
 .cons F178_fn <|
 .cons F179_fn <|
 .cons F180_fn <|
 .cons F181_fn <|
 .cons F182_fn <|
 .cons F183_fn <|
 .cons F185_fn <|
 .cons F186_fn <|
 .cons F187_fn <|
 .cons F188_fn <|
 .cons F189_fn <|
 .cons F190_fn <|
 .cons F191_fn <|
 .cons F192_fn <|
 .cons F193_fn <|
 .cons F194_fn <|
 .cons F195_fn <|
 .cons F196_fn <|
 .cons F197_fn <|
 .cons F198_fn <|
 .cons F199_fn <|
 .cons F200_fn <|
 .cons F201_fn <|
 .cons F202_fn <|
 .cons F203_fn <|
 .cons F204_fn <|
 .cons F205_fn <|
 .cons F206_fn <|
 .cons F207_fn <|
 .cons F208_fn <|
 .cons F209_fn <|
 .cons F210_fn <|
 .cons F211_fn <|
 .cons F212_fn <|
 .cons F213_fn <|
 .cons F215_fn <|
 .cons F216_fn <|
 .cons F217_fn <|
 .cons F218_fn <|
 .cons F219_fn <|
 .cons F220_fn <|
 .cons F221_fn <|
 .cons F222_fn <|
 .cons F223_fn <|
 .cons F224_fn <|
 .cons F225_fn <|
 .cons F226_fn <|
 .cons F227_fn <|
 .cons F228_fn <|
 .cons F229_fn <|
 .cons F230_fn <|
 .cons F231_fn <|
 .cons F233_fn <|
 .cons F234_fn <|
 .cons F235_fn <|
 .cons F236_fn <|
 .cons F237_fn <|
 .cons F238_fn <|
 .cons F239_fn <|
 .cons F240_fn <|
 .cons F241_fn <|
 .cons F242_fn <|
 .cons F243_fn <|
 .cons F244_fn <|
 .cons F245_fn <|
 .cons F246_fn <|
 .cons F247_fn <|
 .cons F248_fn <|
  .nil
end
end Go.Proofs.C1

namespace Go.Proofs.YthgidapmofcloaaGreatDoor
open Go.RowKit Go.Extern.Stop Go.Stop Go.Extern
set_option maxRecDepth 100000 in
theorem as_nil (t:Value)(w:World):Calls Tryz.prog 74 #[.nilIface,t] w λe w'=>e=.returned (.bool false)/\w'=w:=by
 go_enter Tryz.func74,Tryz.ntmps74
 go_wp2
 go_ret
 exact⟨rfl,rfl⟩
namespace Pr
theorem valueOf107 (t:Addr)(w:World):(ReflectliteValue.unpack (.iface 107 (.pointer (some t)))).run Tryz.prog w
  = .ok (.agg #[.pointer (some ⟨9,107,none⟩),.pointer (some ⟨w.heap.size,0,none⟩),.int .u64 150]) (w.alloc (.cells #[.pointer (some t)] 107)):=by kernel_rfl
theorem type107 (a : Addr) (w : World) : (ReflectliteValue.methodAny (ReflectliteValue.valueError "reflectlite.Value.Type" 0) (fun t _ _ _ => ReflectliteType.toType t) #[.agg #[.pointer (some ⟨9, 107, none⟩), .pointer (some a), .int .u64 150]]).run Tryz.prog w
  = .ok (.iface 187 (.agg #[.pointer (some ⟨9,107,none⟩)])) w:=by kernel_rfl
theorem methodKind (h : Value) (w : World) : (Go.method 391 187 (.agg #[h]) "Kind").run Tryz.prog w = .ok (263, h) w := by kernel_rfl
theorem kind107 (w:World):((ReflectliteType.abiMethod λt=>(λa:Nat=>Value.int IntKind.u8 (a:Int)) <$> Rtype.kind t) #[.pointer (some ⟨9,107,none⟩)]).run Tryz.prog w=.ok (.int .u8 22) w:=by kernel_rfl
theorem kind105 (w:World):((ReflectliteType.abiMethod λt=>(λa:Nat=>Value.int IntKind.u8 (a:Int)) <$> Rtype.kind t) #[.pointer (some ⟨9,105,none⟩)]).run Tryz.prog w=.ok (.int .u8 22) w:=by kernel_rfl
theorem rlm (z:Sem Value)(f:TypeId->Addr->Nat->Nat->Sem Value)(v:Value) :
  ReflectliteValue.method z f #[v]=(do match <-ReflectliteValue.parts v with | none=>z | some (t,a,fl)=>f t a fl (fl % 32)):=rfl
theorem parts107 (a:Addr)(w:World):(ReflectliteValue.parts (.agg #[.pointer (some ⟨9,107,none⟩),.pointer (some a),.int .u64 150])).run Tryz.prog w=.ok (some (107,a,150)) w:=by kernel_rfl
theorem isNil107 (a p:Addr)(W:World)(ha:W.cell? a=some (.pointer (some p))) :
  (ReflectliteValue.method (ReflectliteValue.valueError "reflectlite.Value.IsNil" 0) ReflectliteValue.isNil #[.agg #[.pointer (some ⟨9, 107, none⟩), .pointer (some a), .int .u64 150]]).run Tryz.prog W = .ok (.bool false) W := by
 rw[rlm];simp only[Sem.run_bind,parts107,Result.andThen];simp[ReflectliteValue.isNil,loadVar,isAgg,underlying,Tryz.underlying107,ha,Result.andThen]
theorem methodElem (h : Value) (w : World) : (Go.method 391 187 (.agg #[h]) "Elem").run Tryz.prog w = .ok (276, .agg #[h]) w := by kernel_rfl
theorem methodImplements (h : Value) (w : World) : (Go.method 391 187 (.agg #[h]) "Implements").run Tryz.prog w = .ok (277, .agg #[h]) w := by kernel_rfl
theorem methodAssignableTo (h : Value) (w : World) : (Go.method 391 187 (.agg #[h]) "AssignableTo").run Tryz.prog w = .ok (274, .agg #[h]) w := by kernel_rfl
theorem elem107 (w:World):(ReflectliteType.method ReflectliteType.elem #[.agg #[.pointer (some ⟨9,107,none⟩)]]).run Tryz.prog w=.ok (.iface 187 (.agg #[.pointer (some ⟨9,105,none⟩)])) w:=by kernel_rfl
theorem implements105 (w : World) : (ReflectliteType.relation "Implements" ReflectliteType.implements_ #[.agg #[.pointer (some ⟨9, 105, none⟩)], .iface 187 (.agg #[.pointer (some ⟨9, 32, none⟩)])]).run Tryz.prog w = .ok (.bool true) w := by kernel_rfl
theorem typeOf105 (v:Value)(w:World):(ReflectliteType.typeOf #[.iface 105 v]).run Tryz.prog w=.ok (.iface 187 (.agg #[.pointer (some ⟨9,105,none⟩)])) w:=by kernel_rfl
theorem assignable105 (w : World) : (ReflectliteType.relation "AssignableTo" ReflectliteType.assignableTo #[.agg #[.pointer (some ⟨9, 105, none⟩)], .iface 187 (.agg #[.pointer (some ⟨9, 105, none⟩)])]).run Tryz.prog w = .ok (.bool true) w := by kernel_rfl
theorem valueOf105 (e:Addr)(w:World):(ReflectliteValue.unpack (.iface 105 (.pointer (some e)))).run Tryz.prog w
  = .ok (.agg #[.pointer (some ⟨9,105,none⟩),.pointer (some ⟨w.heap.size,0,none⟩),.int .u64 150]) (w.alloc (.cells #[.pointer (some e)] 105)):=by kernel_rfl
theorem elemOf107 (w:World):(Rtype.elem? 107).run Tryz.prog w=.ok (some 105) w:=by kernel_rfl
theorem mk105 (p:Addr)(w:World):(ReflectliteValue.mk 105 p ReflectliteValue.flagAddr).run Tryz.prog w=.ok (.agg #[.pointer (some ⟨9,105,none⟩),.pointer (some p),.int .u64 406]) w:=by kernel_rfl
theorem elemV107 (a p:Addr)(W:World)(ha:W.cell? a=some (.pointer (some p))) :
  (ReflectliteValue.method (ReflectliteValue.valueError "reflectlite.Value.Elem" 0) ReflectliteValue.elem #[.agg #[.pointer (some ⟨9, 107, none⟩), .pointer (some a), .int .u64 150]]).run Tryz.prog W
   = .ok (.agg #[.pointer (some ⟨9,105,none⟩),.pointer (some p),.int .u64 406]) W:=by
 rw[rlm];simp only[Sem.run_bind,parts107,Result.andThen];simp[ReflectliteValue.elem,loadVar,isAgg,underlying,Tryz.underlying107,ha,Result.andThen,elemOf107,mk105]
theorem rls (v x:Value):ReflectliteValue.set #[v,x]=(do
  let (some (dst,a,fl),some (src,b,_)):=(<-ReflectliteValue.parts v,<-ReflectliteValue.parts x)
   | unsupported (.noEntry "extern/(internal/reflectlite.Value).Set.zeroValue")
  if fl / ReflectliteValue.flagAddr % 2 == 0 then unsupported (.noEntry "extern/(internal/reflectlite.Value).Set.unaddressable")
  let val <-loadVar src b
  if <-Rtype.directlyAssignable dst src then storeVar dst a val
  else if <-Rtype.implements dst src then
   if (<-Rtype.kind src) == 20 then
    match val with
    | .nilIface => unsupported (.noEntry "extern/reflectlite: a nil value of one interface type handed on as a value of another")
    | _=>storeVar dst a val
   else storeVar dst a (.iface src val)
  else panicString ("reflectlite.Set: value of type " ++ (← Rtype.spelt src) ++ " is not assignable to type " ++ (← Rtype.spelt dst))
  pure (.tuple #[])):=rfl
theorem parts105a (a:Addr)(w:World):(ReflectliteValue.parts (.agg #[.pointer (some ⟨9,105,none⟩),.pointer (some a),.int .u64 406])).run Tryz.prog w=.ok (some (105,a,406)) w:=by kernel_rfl
theorem parts105 (a:Addr)(w:World):(ReflectliteValue.parts (.agg #[.pointer (some ⟨9,105,none⟩),.pointer (some a),.int .u64 150])).run Tryz.prog w=.ok (some (105,a,150)) w:=by kernel_rfl
theorem direct105 (w:World):(Rtype.directlyAssignable 105 105).run Tryz.prog w=.ok true w:=by kernel_rfl
theorem set105 (ta b e:Addr)(old:Value)(W:World)(hb:W.cell? b=some (.pointer (some e)))(ht:W.cell? ta=some old)(hf:W.frozen? ta=false) :
  (ReflectliteValue.set #[.agg #[.pointer (some ⟨9,105,none⟩),.pointer (some ta),.int .u64 406],.agg #[.pointer (some ⟨9,105,none⟩),.pointer (some b),.int .u64 150]]).run Tryz.prog W
   = .ok (.tuple #[]) (W.setCell ta (.pointer (some e))):=by
 rw[rls];simp only[Sem.run_bind,parts105a,parts105,Result.andThen];simp[ReflectliteValue.flagAddr,loadVar,isAgg,underlying,Tryz.underlying105,hb,Result.andThen,direct105,storeVar,Value.cells,storeCells,Addr.add];rw[run_store Tryz.prog W ta _ _ (by rfl)];simp[ht,hf]
end Pr
set_option maxHeartbeats 4000000 in
set_option maxRecDepth 100000 in
theorem as_hit (e t:Addr)(old:Value)(w:World)(hg:w.cell? ⟨0,0,none⟩=some (.iface 187 (.agg #[.pointer (some ⟨9,32,none⟩)])))(ht0:w.cell? t=some old)(hf0:w.frozen? t=false) :
  Calls Tryz.prog 74 #[.iface 105 (.pointer (some e)),.iface 107 (.pointer (some t))] w λev w'=>ev=.returned (.bool true)/\w'=((((w.alloc (.cells #[.pointer (some t)] 107)).alloc (.cells #[.pointer (some ⟨9,107,none⟩),.pointer (some ⟨w.heap.size,0,none⟩),.int .u64 150] 149)).alloc (.cells #[.pointer (some ⟨9,107,none⟩),.pointer (some ⟨w.heap.size,0,none⟩),.int .u64 150] 149)).alloc (.cells #[.pointer (some e)] 105)).setCell t (.pointer (some e)):=by
 have h6:=@run_callFunc_extern Tryz.prog 122 _ (fun args=>ReflectliteValue.unpack (args.getD 0 (.tuple #[]))) Tryz.func122 (by kernel_rfl) (by kernel_rfl) (by kernel_rfl) (by kernel_rfl);have h7 := @run_callFunc_extern Tryz.prog 123 _ (ReflectliteValue.methodAny (ReflectliteValue.valueError "reflectlite.Value.Type" 0) (fun t _ _ _ => ReflectliteType.toType t)) Tryz.func123 (by kernel_rfl) (by kernel_rfl) (by kernel_rfl) (by kernel_rfl)
 have h8 := @run_callFunc_extern Tryz.prog 124 _ (ReflectliteValue.method (ReflectliteValue.valueError "reflectlite.Value.IsNil" 0) ReflectliteValue.isNil) Tryz.func124 (by kernel_rfl) (by kernel_rfl) (by kernel_rfl) (by kernel_rfl)
 have h27:=@run_callFunc_extern Tryz.prog 263 _ (ReflectliteType.abiMethod fun t=>do pure (.int .u8 (←Rtype.kind t))) Tryz.func263 (by kernel_rfl) (by kernel_rfl) (by kernel_rfl) (by kernel_rfl);have h37:=@run_callFunc_extern Tryz.prog 276 _ (ReflectliteType.method ReflectliteType.elem) Tryz.func276 (by kernel_rfl) (by kernel_rfl) (by kernel_rfl) (by kernel_rfl);have h38 := @run_callFunc_extern Tryz.prog 277 _ (ReflectliteType.relation "Implements" ReflectliteType.implements_) Tryz.func277 (by kernel_rfl) (by kernel_rfl) (by kernel_rfl) (by kernel_rfl)
 have h10:=@run_callFunc_extern Tryz.prog 126 _ ReflectliteType.typeOf Tryz.func126 (by kernel_rfl) (by kernel_rfl) (by kernel_rfl) (by kernel_rfl);have h35 := @run_callFunc_extern Tryz.prog 274 _ (ReflectliteType.relation "AssignableTo" ReflectliteType.assignableTo) Tryz.func274 (by kernel_rfl) (by kernel_rfl) (by kernel_rfl) (by kernel_rfl)
 have h11 := @run_callFunc_extern Tryz.prog 157 _ (ReflectliteValue.method (ReflectliteValue.valueError "reflectlite.Value.Elem" 0) ReflectliteValue.elem) Tryz.func157 (by kernel_rfl) (by kernel_rfl) (by kernel_rfl) (by kernel_rfl)
 have h12:=@run_callFunc_extern Tryz.prog 158 _ ReflectliteValue.set Tryz.func158 (by kernel_rfl) (by kernel_rfl) (by kernel_rfl) (by kernel_rfl);have tO:=Pr.typeOf105;have mA:=Pr.methodAssignableTo;have a25:=Pr.assignable105;have v25:=Pr.valueOf105;have f6:=Pr.valueOf107;have f7:=Pr.type107;have mK:=Pr.methodKind;have mE:=Pr.methodElem;have mI:=Pr.methodImplements;have k27:=Pr.kind107;have k25:=Pr.kind105;have e27:=Pr.elem107;have i25:=Pr.implements105;have n8:=Pr.isNil107 ⟨w.heap.size,0,none⟩ t ((w.alloc (.cells #[.pointer (some t)] 107)).alloc (.cells #[.pointer (some ⟨9,107,none⟩),.pointer (some ⟨w.heap.size,0,none⟩),.int .u64 150] 149)) (by simp);have hlt:0<w.heap.size:=by
  rcases Nat.eq_zero_or_pos w.heap.size with h0 | h
  ·simp[World.cell?,h0]at hg
  ·exact h
 have hg2:((w.alloc (.cells #[.pointer (some t)] 107)).alloc (.cells #[.pointer (some ⟨9,107,none⟩),.pointer (some ⟨w.heap.size,0,none⟩),.int .u64 150] 149)).cell? ⟨0,0,none⟩=some (.iface 187 (.agg #[.pointer (some ⟨9,32,none⟩)])):=by
  rw[World.cell?_alloc_lt _ _ ⟨0,0,none⟩ (by simp),World.cell?_alloc_lt _ _ ⟨0,0,none⟩ hlt];exact hg
 have htl:t.block<w.heap.size:=by
  rcases Nat.lt_or_ge t.block w.heap.size with h | h
  ·exact h
  ·simp[World.cell?,Array.getElem?_eq_none h]at ht0
 have el:=Pr.elemV107 ⟨w.heap.size,0,none⟩ t (((w.alloc (.cells #[.pointer (some t)] 107)).alloc (.cells #[.pointer (some ⟨9,107,none⟩),.pointer (some ⟨w.heap.size,0,none⟩),.int .u64 150] 149)).alloc (.cells #[.pointer (some ⟨9,107,none⟩),.pointer (some ⟨w.heap.size,0,none⟩),.int .u64 150] 149)) (by rw[World.cell?_alloc_lt _ _ ⟨w.heap.size,0,none⟩ (by simp;omega)];simp);have st:=Pr.set105 t ⟨w.heap.size+1+1+1,0,none⟩ e old ((((w.alloc (.cells #[.pointer (some t)] 107)).alloc (.cells #[.pointer (some ⟨9,107,none⟩),.pointer (some ⟨w.heap.size,0,none⟩),.int .u64 150] 149)).alloc (.cells #[.pointer (some ⟨9,107,none⟩),.pointer (some ⟨w.heap.size,0,none⟩),.int .u64 150] 149)).alloc (.cells #[.pointer (some e)] 105))
  (by rw[World.cell?_alloc_at _ _ _ _ (by simp)];rfl)
  (by rw[World.cell?_alloc_lt _ _ t (by simp;omega),World.cell?_alloc_lt _ _ t (by simp;omega),World.cell?_alloc_lt _ _ t (by simp;omega),World.cell?_alloc_lt _ _ t htl];exact ht0)
  (by rw[World.frozen?_alloc_old _ _ t (by simp;omega),World.frozen?_alloc_old _ _ t (by simp;omega),World.frozen?_alloc_old _ _ t (by simp;omega),World.frozen?_alloc_old _ _ t (Nat.ne_of_lt htl)];exact hf0)
 go_enter Tryz.func74,Tryz.ntmps74
 go_wp2
 refine wp_loop_rounds 1 ?_;rw[rounds_succ]
 go_wp2
 go_ret
 exact⟨rfl,rfl⟩
namespace Pr
theorem typeOf26 (v:Value)(w:World):(ReflectliteType.typeOf #[.iface 26 v]).run Tryz.prog w=.ok (.iface 187 (.agg #[.pointer (some ⟨9,26,none⟩)])) w:=by kernel_rfl
theorem comparable26 (w : World) : ((ReflectliteType.method fun t => do Rtype.noPackHeld "Comparable" t; (fun a => Value.bool a.comparable) <$> typeInfo t) #[.agg #[.pointer (some ⟨9, 26, none⟩)]]).run Tryz.prog w = .ok (.bool true) w := by kernel_rfl
theorem methodComparable (v : Value) (w : World) : (Go.method 391 187 v "Comparable").run Tryz.prog w = .ok (275, v) w := by kernel_rfl
theorem noIs (v:Value)(xT:TypeId)(w:World):(Instr.typeAssert (.iface 105 v) xT 199 true).run Tryz.prog w=.ok (.tuple #[.nilIface,.bool false]) w:=run_typeAssert_lacksB Tryz.underlying199 (by kernel_rfl) (by kernel_rfl) v xT w
theorem hasUnwrap (v:Value)(xT:TypeId)(w:World):(Instr.typeAssert (.iface 105 v) xT 194 true).run Tryz.prog w=.ok (.tuple #[.iface 105 v,.bool true]) w:=run_typeAssert_hasB Tryz.underlying194 (by kernel_rfl) v xT w
theorem methodUnwrap (v : Value) (w : World) : (Go.method 391 105 v "Unwrap").run Tryz.prog w = .ok (269, v) w := by kernel_rfl
end Pr
end Go.Proofs.YthgidapmofcloaaGreatDoor

namespace Go.Proofs.YthgidapmofcloaaGreatDoor
open Go.RowKit Go.Extern.Stop Go.Stop Go.Extern
theorem Pr.comp26:(Tryz.prog.info? 26).map (·.comparable)=some true:=by kernel_rfl
set_option maxHeartbeats 4000000 in
set_option maxRecDepth 100000 in
theorem is_hit (pb po:Nat)(m:Int)(w:World)(h1:w.cell? ⟨pb,po+1,none⟩=some (.int .i64 m)) :
  Calls Tryz.prog 76 #[.iface 105 (.pointer (some ⟨pb,po,none⟩)),.iface 26 (.int .i64 m)] w λe w'=>e=.returned (.bool true)/\w'=w:=by
 have h8:=@run_callFunc_extern Tryz.prog 126 _ Extern.ReflectliteType.typeOf Tryz.func126 (by kernel_rfl) (by kernel_rfl) (by kernel_rfl) (by kernel_rfl);have h32 := @run_callFunc_extern Tryz.prog 275 _ (Extern.ReflectliteType.method fun t => do Rtype.noPackHeld "Comparable" t; pure (.bool (← typeInfo t).comparable)) Tryz.func275 (by kernel_rfl) (by kernel_rfl) (by kernel_rfl) (by kernel_rfl)
 have tT:=Pr.typeOf26;have cT:=Pr.comparable26;have mR:=Pr.methodComparable;have nE:=Pr.noIs;have uW:=Pr.hasUnwrap;have mU:=Pr.methodUnwrap;have heq:=Go.Lib.run_eql_iface_int (P:=Tryz.prog) w (k:=.i64) m m Tryz.underlying32 Pr.comp26 Tryz.underlying26;have hty:=run_eql_iface_types (P:=Tryz.prog) 105 26 (.pointer (some ⟨pb,po,none⟩)) (.int .i64 m) Tryz.underlying32 (by decide) w;rw[beq_self_eq_true]at heq
 go_enter Tryz.func76,Tryz.ntmps76
 go_wp2
 refine wp_loop_rounds 2 ?_;rw[rounds_succ]
 go_wp2
 rw[rounds_succ]
 go_wp2
 go_ret
 exact⟨rfl,rfl⟩
abbrev pows:List Int:=[1,10,100,1000,10000,100000,1000000,10000000,100000000,1000000000,10000000000,100000000000,1000000000000,10000000000000,100000000000000,1000000000000000,10000000000000000,100000000000000000,1000000000000000000,10000000000000000000]
abbrev powsA:List Dn.AV:=[.int .u64 1,.int .u64 10,.int .u64 100,.int .u64 1000,.int .u64 10000,.int .u64 100000,.int .u64 1000000,.int .u64 10000000,.int .u64 100000000,.int .u64 1000000000,.int .u64 10000000000,.int .u64 100000000000,.int .u64 1000000000000,.int .u64 10000000000000,.int .u64 100000000000000,.int .u64 1000000000000000,.int .u64 10000000000000000,.int .u64 100000000000000000,.int .u64 1000000000000000000,.int .u64 10000000000000000000]
theorem powsA_eq:powsA=pows.map (Dn.AV.int .u64):=rfl
abbrev gtT:Dn.GT:=[(6,powsA),(0,[.raw (.iface 187 (.agg #[.pointer (some ⟨9,32,none⟩)]))])]
theorem gtT_cell {S:Dn.St}{G:Dn.Gh}{w:World}(hI:Dn.Inv Tryz.prog gtT S G w):w.cell? ⟨0,0,none⟩=some (.iface 187 (.agg #[.pointer (some ⟨9,32,none⟩)])):=by
 obtain⟨_,c,ty,fr,h1,h2⟩:=hI.glob 0 _ rfl;simp only[Dn.Rl,Dn.Rv]at h2;obtain⟨v,r,e1,⟨rfl,_⟩,rfl⟩:=h2;obtain⟨c⟩:=c;simp only at e1;subst e1;simp[World.cell?,h1]
theorem setCell_wBlk {w:World}{b off:Nat}{c:Array Value}{ty:TypeId}{fr:Nat×Nat}(v:Value)(h:w.heap[b]? = some (.cells c ty fr)):w.setCell ⟨b,off,none⟩ v=Dn.wBlk w b (.cells (c.setIfInBounds off v) ty fr):=by
 have hlt:=Dn.lt_of_some h;simp only[World.setCell,Dn.wBlk]
 congr 1
 apply Array.ext_getElem?
 intro j;by_cases e:j=b
 ·subst e;rw[Array.getElem?_modify,if_pos rfl,h];simp[hlt]
 ·rw[Array.getElem?_setIfInBounds_ne (Ne.symm e),Array.getElem?_modify,if_neg (Ne.symm e)]
theorem body74:Dn.HasBody Tryz.prog 74:=⟨_,Tryz.func74,by kernel_rfl,by kernel_rfl⟩
theorem body76:Dn.HasBody Tryz.prog 76:=⟨_,Tryz.func76,by kernel_rfl,by kernel_rfl⟩
theorem primAs:Dn.PrimOK Tryz.prog gtT 74 (.errAs 105 107):=by
 intro xs S v S' h;refine⟨body74,λG w args hI hx=>?_⟩;unfold Dn.primV at h;split at h<;>try (rename_i e1;cases e1;done)
 ·rename_i e1;cases e1;simp only[Dn.Rl]at hx;obtain⟨u,r,rfl,hu,t,r,rfl,ht,rfl⟩:=hx;simp only[Dn.Rv]at hu;subst hu;cases h;exact(as_nil t w).mono λe w' ⟨h1,h2⟩=>by
   subst h1;subst h2;exact⟨_,_,_,⟨rfl,rfl⟩,Dn.Tr.refl hI,by simp only[Dn.Rv]⟩
 ·rename_i t tp t' id off tp' tid e1;cases e1;cases hb:(Nat.beq 105 t' && Nat.beq 107 tp') with
  | false=>rw[hb]at h;cases h
  | true =>
   rw[hb]at h;simp only[cond_true]at h;simp only[Bool.and_eq_true]at hb;obtain rfl:=Nat.eq_of_beq_eq_true hb.1;obtain rfl:=Nat.eq_of_beq_eq_true hb.2;split at h
   ·rename_i ty a hbx;cases h;simp only[Dn.Rl,Dn.Rv]at hx;obtain⟨u,r,rfl,hu,t,r,rfl,ht,rfl⟩:=hx;obtain⟨_,rfl,hid,rfl⟩:=hu;obtain⟨_,rfl,htid,rfl⟩:=ht;obtain⟨_,c,fr,sf,pre,rest,hw,hfr,hcl,hpre⟩:=hI.box tid ty _ hbx;simp only[Dn.Rl]at hpre;obtain⟨u0,r,rfl,_,rfl⟩:=hpre;have hsz:0<c.size:=by rw[<-Array.length_toList,hcl];simp
    have hc0:c[0]? = some u0:=by rw[<-Array.getElem?_toList,hcl];rfl
    refine(as_hit ⟨G.β id,off,none⟩ ⟨G.β tid,0,none⟩ u0 w (gtT_cell hI) (by simp[World.cell?,hw,hc0]) (by simp only[World.frozen?,hw];exact hfr.free hsz)).mono λe w' ⟨h1,h2⟩=>?_;subst h1;generalize hW:(((w.alloc (.cells #[.pointer (some ⟨G.β tid,0,none⟩)] 107)).alloc (.cells #[.pointer (some ⟨9,107,none⟩),.pointer (some ⟨w.heap.size,0,none⟩),.int .u64 150] 149)).alloc (.cells #[.pointer (some ⟨9,107,none⟩),.pointer (some ⟨w.heap.size,0,none⟩),.int .u64 150] 149)).alloc (.cells #[.pointer (some ⟨G.β id,off,none⟩)] 105)=W at h2;have hgr:Dn.Gr w W:=by
     subst hW;exact(((Dn.Gr.push _ _).trans (Dn.Gr.push _ _)).trans (Dn.Gr.push _ _)).trans (Dn.Gr.push _ _)
    clear hW
    have t1:=Dn.Tr.gr hI hgr;have hw2:W.heap[G.β tid]? = some (.cells c ty fr):=by rw[hgr.same _ (hI.boxLt tid htid)];exact hw
    rw[setCell_wBlk _ hw2]at h2;have t2:=Dn.Tr.boxSet t1.inv (c':=c.setIfInBounds 0 (.pointer (some ⟨G.β id,off,none⟩))) (cs':=[.ptr id off]) (pre':=[.pointer (some ⟨G.β id,off,none⟩)]) (rest:=rest) hbx hw2 (by simp) (by simp[hcl]) (by
     refine⟨_,_,rfl,?_,rfl⟩;simp only[Dn.Rv];exact⟨hid,trivial⟩)
    subst h2;exact⟨_,_,_,⟨rfl,rfl⟩,t1.trans t2,by simp only[Dn.Rv]⟩
   ·cases h
 ·cases h
theorem primIs:Dn.PrimOK Tryz.prog gtT 76 (.errIs 105 26):=by
 intro xs S v S' h;refine⟨body76,λG w args hI hx=>?_⟩;unfold Dn.primV at h;split at h<;>try (rename_i e1;cases e1;done)
 ·rename_i t ti t' id off ti' n e1;cases e1;cases hb:(Nat.beq 105 t' && Nat.beq 26 ti') with
  | false=>rw[hb]at h;cases h
  | true =>
   rw[hb]at h;simp only[cond_true]at h;simp only[Bool.and_eq_true]at hb;obtain rfl:=Nat.eq_of_beq_eq_true hb.1;obtain rfl:=Nat.eq_of_beq_eq_true hb.2;split at h
   ·rename_i ty cs hbx;split at h
    ·rename_i m hm;cases hmn:m == n with
     | false=>rw[hmn]at h;cases h
     | true =>
      rw[hmn]at h;cases h;obtain rfl:=eq_of_beq hmn;simp only[Dn.Rl,Dn.Rv]at hx;obtain⟨u,r,rfl,hu,t,r,rfl,ht,rfl⟩:=hx;obtain⟨_,rfl,hid,rfl⟩:=hu;obtain⟨_,rfl,rfl⟩:=ht;obtain⟨_,c,fr,sf,pre,rest,hw,hfr,hcl,hpre⟩:=hI.box id ty cs hbx;have hc1:c[off+1]? = some (.int .i64 m):=by
       rw[<-Array.getElem?_toList,hcl];obtain⟨y,hy1,hy2⟩:=Dn.Rl.get hpre hm;simp only[Dn.Rv]at hy2;subst hy2;have q:off+1<pre.length:=by
        rcases Nat.lt_or_ge (off+1) pre.length with q | q
        ·exact q
        ·rw[List.getElem?_eq_none q]at hy1;cases hy1
       rw[List.getElem?_append_left q];exact hy1
      refine(is_hit (G.β id) off m w (by simp[World.cell?,hw,hc1])).mono λe w' ⟨h1,h2⟩=>?_;subst h1;subst h2;exact⟨_,_,_,⟨rfl,rfl⟩,Dn.Tr.refl hI,by simp only[Dn.Rv]⟩
    ·cases h
   ·cases h
 ·cases h
theorem prims:Dn.PrimsOK Tryz.prog gtT [(74,.errAs 105 107),(76,.errIs 105 26)]:=.cons primAs (.cons primIs .nil)
end Go.Proofs.YthgidapmofcloaaGreatDoor

namespace Go.Proofs.YthgidapmofcloaaGreatDoor
open Go.ChangeShapes Go.WideShapes Go.ChangeAt Go.RowKit
abbrev laid:List (String×DataW Unit):=Rows.treeRunsRow.laid
theorem own:ownKnob Tryz.prog.godebug=none:=by kernel_rfl
theorem globET : Tryz.prog.globalNamed "errors.errorType" = some 0 := by kernel_rfl
theorem rtypeIs : (Tryz.prog.cutTypes.find? (·.1 == "internal/reflectlite.rtype")).map (·.2) = some 187 := by kernel_rfl
theorem oneRow:((List.range 291).filter λt=>Tryz.prog.rowNamed t [101,114,114,111,114])=[32]:=by kernel_rfl
theorem typesSize:Tryz.prog.types.size=291:=by kernel_rfl
theorem handle_of_laid {W : World} (h : laidMetH Tryz.prog laid W) : W.var? Tryz.prog "errors.errorType" = some #[.iface 187 (.agg #[.pointer (some ⟨9, 32, none⟩)])] := by
 have h' : laidMet Tryz.prog (laid.filter fun x => x.2.handleName?.isNone) W ∧ handlesMet Tryz.prog [("errors.errorType", Rows.laid_errors_errorType)] W := h
 obtain⟨name,u,ty,e1,e2,e3,e4,e5⟩:=h'.2 _ (List.mem_singleton.2 rfl);have en:name=[101,114,114,111,114]:=(Option.some.inj e1).symm;subst en;obtain rfl:=Option.some.inj (rtypeIs.symm.trans e2);have hm:ty∈(List.range 291).filter λt=>Tryz.prog.rowNamed t [101,114,114,111,114]:=List.mem_filter.2 ⟨List.mem_range.2 (by rw[<-typesSize];exact e3),e4⟩;rw[oneRow]at hm;obtain rfl:=List.mem_singleton.1 hm;have hh:typeHandle Tryz.prog 32=.pointer (some ⟨9,32,none⟩):=by kernel_rfl
 rw[hh]at e5;exact e5
theorem globPow : Tryz.prog.globalNamed "internal/strconv.uint64pow10" = some 6 := by kernel_rfl
theorem typePow:(Tryz.prog.globals[6]?).map (·.type)=some 256:=by kernel_rfl
theorem undPow:Tryz.prog.underlying 256=some (.array 20 212):=by kernel_rfl
theorem undU64:Tryz.prog.underlying 212=some (.int .u64):=by kernel_rfl
theorem pow_of_laid {W : World} (h : laidMetH Tryz.prog laid W) : Lib.TabIs Tryz.prog W "internal/strconv.uint64pow10" .u64 pows := by
 have h' : laidMet Tryz.prog (laid.filter fun x => x.2.handleName?.isNone) W ∧ handlesMet Tryz.prog [("errors.errorType", Rows.laid_errors_errorType)] W := h
 exact Lib.tabIs_of_head globPow typePow undPow undU64 (by kernel_rfl) (by kernel_rfl) (laidMet.tail (laidMet.tail h'.1))
theorem inv_of_laid {W:World}(h:laidMetH Tryz.prog laid W):Dn.Inv Tryz.prog gtT Dn.St.init (Dn.G0 W) W:=by
 refine Dn.inv0g λg cs hg=>?_;rw[Dn.lk_cons]at hg;by_cases e:6=g
 ·rw[if_pos e]at hg;subst e;cases hg;have hv:=pow_of_laid h;simp only[Lib.TabIs,World.var?,globPow,Option.bind_some]at hv;split at hv
  ·rename_i c ty fr hw;cases hv;refine⟨_,ty,fr,hw,?_⟩;rw[powsA_eq];generalize pows=l
   induction l with
   | nil=>exact Dn.Rl.nil
   | cons a r ih=>exact Dn.Rl.cons (by simp only[Dn.Rv]) ih
  ·cases hv
 ·rw[if_neg e,Dn.lk_cons]at hg;by_cases e0:0=g
  ·rw[if_pos e0]at hg;subst e0;cases hg;have hv:=handle_of_laid h;simp only[World.var?,globET,Option.bind_some]at hv;split at hv
   ·rename_i c ty fr hw;cases hv;refine⟨_,ty,fr,hw,Dn.Rl.single ?_⟩;simp only[Dn.Rv];exact⟨trivial,rfl⟩
   ·cases hv
  ·rw[if_neg e0]at hg;cases hg
noncomputable def handW (os:Os):World :=
 { World.holding Tryz.prog os ⟨#[],#[],[]⟩ with heap:=(World.holding Tryz.prog os ⟨#[],#[],[]⟩).heap.modify 0 fun
   |.cells _ t frozen=>.cells #[.iface 187 (.agg #[.pointer (some ⟨9,32,none⟩)])] t frozen
   | o=>o }
abbrev plain:List (String×DataW Unit):=laid.filter λx=>x.2.handleName?.isNone
noncomputable def laidW (os:Os):World:=(handW os).layVars Tryz.prog plain
theorem laidW_os (os:Os):(laidW os).os=os:=World.layVars_os _ _ _
theorem laidW_fits (os:Os):(handW os).layFits Tryz.prog plain []=true:=by kernel_rfl
theorem laidW_ifaces (os:Os):(handW os).layIfaces Tryz.prog plain (laidW os)=true:=by kernel_rfl
theorem laidW_hand (os:Os):(laid.filter λx=>x.2.handleName?.isSome).all (handleAtB Tryz.prog (laidW os))=true:=by kernel_rfl
theorem laidW_met (os:Os)(args:Array Value):laidMetH Tryz.prog laid ((laidW os).forCall (λ_ _=>0) ⟨#[],args,[]⟩).memory:=by
 have e1:(plain.filter λx=>(plain.map (·.1)).contains x.1)=plain:=List.filter_eq_self.2 λx hx=>List.contains_iff_mem.2 (List.mem_map.2 ⟨x,hx,rfl⟩);have e2:(plain.filter λx=>!(plain.map (·.1)).contains x.1)=[]:=List.filter_eq_nil_iff.2 λx hx=>by rw[List.contains_iff_mem.2 (List.mem_map.2 ⟨x,hx,rfl⟩)];simp
 have h:laidMet Tryz.prog plain (laidW os):=laidMet_layVars (w0:=handW os) (plain.map (·.1)) [] (by rw[e1];rfl) (by rw[e1];exact laidW_fits os) (by rw[e1];exact laidW_ifaces os) (by rw[e2];exact LaidIn.none);have h2:laidMetH Tryz.prog laid (laidW os):=laidMetH_of_parts h (laidW_hand os);exact h2.of_heap (by simp[World.memory,World.forCall,Input.heap])
set_option maxRecDepth 1000000 in
theorem ran:Dn.exec2 gtT (λf=>Dn.lk [(74,Dn.PrimK.errAs 105 107),(76,Dn.PrimK.errIs 105 26)] f) (λf=>Dn.lk C1.tab f) 100000 200 3 [] Dn.St.init Dn.retTrue=true:=by kernel_rfl
end Go.Proofs.YthgidapmofcloaaGreatDoor

namespace Go.Proofs.YthgidapmofcloaaGreatDoor
open Go.Dn Go.RowKit
theorem rv_str {S:St}{G:Gh}{w:World}{s:List UInt8}:Rv S G w (.str s) (.string ⟨s.toArray⟩):=by simp only[Rv]
theorem hbTL:HasBody Tryz.prog 162:=⟨_,Tryz.func162,by kernel_rfl,by kernel_rfl⟩
theorem hbTR:HasBody Tryz.prog 163:=⟨_,Tryz.func163,by kernel_rfl,by kernel_rfl⟩
theorem hbTT:HasBody Tryz.prog 169:=⟨_,Tryz.func169,by kernel_rfl,by kernel_rfl⟩
theorem hbAI:HasBody Tryz.prog 187:=⟨_,Tryz.func187,by kernel_rfl,by kernel_rfl⟩
theorem hbIA:HasBody Tryz.prog 165:=⟨_,Tryz.func165,by kernel_rfl,by kernel_rfl⟩
theorem sh_trimL {cs:List UInt8}(hc:cs.length<4294967281)(ha:∀b∈cs,b.toNat<128)(s:List UInt8):PF (AC Tryz.prog gtT) 162 [.str s,.str cs] (.str (trimL cs s)) :=
 PF.of_calls hbTL (λS G w vs h=>rl_str2 h) (λS G w=>rv_str) λw =>
  Any.strings_TrimLeft_laid Tryz.lays161 (by kernel_rfl) ⟨s.toArray⟩ ⟨cs.toArray⟩ w hc λj b h=>ha b (List.mem_of_getElem? h)
theorem sh_trimR {cs:List UInt8}(hc:cs.length<4294967281)(ha:∀b∈cs,b.toNat<128)(s:List UInt8)(hs:s.length<9223372036854775807):PF (AC Tryz.prog gtT) 163 [.str s,.str cs] (.str (trimR cs s)) :=
 PF.of_calls hbTR (λS G w vs h=>rl_str2 h) (λS G w=>rv_str) λw =>
  Any.strings_TrimRight_laid Tryz.lays162 (by kernel_rfl) ⟨s.toArray⟩ ⟨cs.toArray⟩ w (Nat.le_of_lt hs) hc λj b h=>ha b (List.mem_of_getElem? h)
theorem sh_trim {cs:List UInt8}(hc:cs.length<4294967281)(ha:∀b∈cs,b.toNat<128)(s:List UInt8)(hs:s.length<9223372036854775807):PF (AC Tryz.prog gtT) 169 [.str s,.str cs] (.str (trimA cs s)) :=
 PF.of_calls hbTT (λS G w vs h=>rl_str2 h) (λS G w=>rv_str) λw =>
  Any.strings_Trim_laid Tryz.lays160 (by kernel_rfl) ⟨s.toArray⟩ ⟨cs.toArray⟩ w (Nat.le_of_lt hs) hc λj b h=>ha b (List.mem_of_getElem? h)
theorem decFrom_val (l:List UInt8):∀(a:Nat),l.all dig=true->Lib.decFrom a l=some (valB a l):=by
 induction l with
 | nil=>intro a _;rfl
 | cons b r ih =>
  intro a h;rw[List.all_cons,bA]at h;have hb:=h.1;simp only[dig,bA,decide_eq_true_eq]at hb;have hd:Lib.digitVal b=some (b.toNat-48):=if_pos hb;unfold Lib.decFrom;rw[hd];exact ih _ h.2
theorem atoi_val (l:List UInt8)(h:l.all dig=true)(h1:1<=l.length):Lib.atoi l=some (valB 0 l:Int):=by
 cases l with
 | nil=>simp at h1
 | cons b r =>
  have hb:=h;simp only[List.all_cons,bA,dig,decide_eq_true_eq]at hb;have n1:(b == 45)=false:=by
   cases hh:(b == 45) with
   | false=>rfl
   | true=>rw[beq_iff_eq]at hh;subst hh;exact absurd hb.1.1 (by decide)
  have n2:(b == 43)=false:=by
   cases hh:(b == 43) with
   | false=>rfl
   | true=>rw[beq_iff_eq]at hh;subst hh;exact absurd hb.1.1 (by decide)
  simp only[Lib.atoi,n1,n2,Bool.false_eq_true,if_false,Lib.decNat,List.isEmpty_cons];rw[decFrom_val _ 0 h];rfl
theorem sh_atoi (s:List UInt8)(h:s.all dig=true)(h1:1<=s.length)(h2:s.length<=18):PF (AC Tryz.prog gtT) 187 [.str s] (.tup [.int .i64 (valB 0 s),.nilif]) :=
 PF.of_calls hbAI (λS G w vs h=>rl_str1 h) (v:=.tuple #[.int .i64 (valB 0 s),.nilIface]) (λS G w=>by
   simp only[Rv];exact⟨_,rfl,Rl.cons (by simp only[Rv]) (Rl.cons (by simp only[Rv]) Rl.nil)⟩) λw =>
  (Any.strconv_Atoi Tryz.lays172 ⟨s.toArray⟩ (valB 0 s) h2 (atoi_val s h h1) w).mono λe w' ⟨h1,t,h2⟩=>⟨h1,by rw[h2];exact Joins.below_bytesWorld _ _ _ _ (nR _)⟩
theorem decB_dec:∀n:Nat,Lib.decDigits n=decB n:=λn=>by
 induction n using Nat.strongRecOn with
 | _ n ih =>
  unfold Lib.decDigits decB;split
  ·rfl
  ·rw[ih (n / 10) (by omega)]
theorem itoa_eq (n:Int):Lib.itoa n=itoaB n:=by unfold Lib.itoa itoaB;rw[decB_dec,decB_dec]
theorem pows_tab:Lib.pow10Tab=pows:=by decide
theorem tab_of_inv {S : St} {G : Gh} {w : World} (hI : Inv Tryz.prog gtT S G w) : Lib.TabIs Tryz.prog w "internal/strconv.uint64pow10" .u64 Lib.pow10Tab := by
 rw[pows_tab];obtain⟨_,c,ty,fr,h1,h2⟩:=hI.glob 6 powsA rfl;have:c=(pows.map λz=>Value.int .u64 z).toArray:=by
  rw[powsA_eq]at h2;obtain⟨c⟩:=c;simp only at h2
  congr 1
  clear h1
  revert h2
  generalize pows=l
  induction l generalizing c with
  | nil=>intro h2;simpa only[List.map_nil,Rl] using h2
  | cons a r ih =>
   intro h2;simp only[List.map_cons,Rl,Rv]at h2;obtain⟨v,q,rfl,rfl,h3⟩:=h2;rw[List.map_cons,ih q h3]
 rw[this]at h1;simp only[Lib.TabIs,World.var?,globPow,Option.bind_some,h1]
theorem rl_int1 {S:St}{G:Gh}{w:World}{k:IntKind}{n:Int}{vs:List Value}(h:Rl S G w [.int k n] vs):vs=[.int k n]:=by
 simp only[Rl,Rv]at h;obtain⟨v,r,rfl,rfl,rfl⟩:=h;rfl
theorem sh_itoa (n:Int)(h1:-999999<=n)(h2:n<=999999):PF (AC Tryz.prog gtT) 165 [.int .i64 n] (.str (itoaB n)) :=
 PF.of_callsI hbIA (λS G w vs h=>rl_int1 h) (v:=.string ⟨(Lib.itoa n).toArray⟩) (λS G w=>by rw[itoa_eq];exact rv_str) λS G w hI =>
  (Any.strconv_Itoa Tryz.lays171M n (by omega) (by omega) w (tab_of_inv hI)).mono λe w' ⟨h1,k,os,h2⟩=>⟨h1,by rw[h2];exact Lib.below_grow _ _ (nR _) _ _⟩
end Go.Proofs.YthgidapmofcloaaGreatDoor

namespace Go.Proofs.YthgidapmofcloaaGreatDoor.Fn
open Go.ChangeShapes Go.WideShapes Go.ChangeAt Go.RowKit Go.Dn
abbrev A:CallT:=AC Tryz.prog gtT
theorem hm:MonoC A:=AC_mono
theorem gtSta:GtSta gtT:=λg cs h=>by
 rw[lk_cons]at h;by_cases e:6=g
 ·rw[if_pos e]at h;cases h;rw[powsA_eq];generalize pows=l
  induction l with
  | nil=>exact trivial
  | cons a r ih=>exact⟨trivial,ih⟩
 ·rw[if_neg e,lk_cons]at h;by_cases e0:0=g
  ·rw[if_pos e0]at h;cases h;exact⟨trivial,trivial⟩
  ·rw[if_neg e0]at h;cases h
theorem pf {f : FuncId} {fn : Func} {n : Note} {F : DF} {us : List AV} {u : AV} (hf : Tryz.prog.funcs[f]? = some fn) (hn : (fn.name == "runtime.NumGoroutine") = false) (hp : prepF Tryz.prog n fn = some F) (hs : Stas us) (hw : wpF gtT A F us St.init (Ret u)) : PF A f us u :=
 PF.of_init gtSta hs (AC_intro Tryz.checked.mixed hf hn hp hw)
theorem s1 {a:AV}(h:Sta a):Stas [a]:=⟨h,trivial⟩
theorem s2 {a b:AV}(h:Sta a)(k:Sta b):Stas [a,b]:=⟨h,k,trivial⟩
theorem s3 {a b c:AV}(h:Sta a)(k:Sta b)(l:Sta c):Stas [a,b,c]:=⟨h,k,l,trivial⟩
theorem indT {Q:PT->Prop}(h:∀t,(∀u,u.n<t.n->Q u)->Q t)(t:PT):Q t:=(measure PT.n).wf.induction t h
theorem plain:∀t u:PT,t.ok->PF A 32 [encT t,encT u] (.bool (eqT t u)) :=
 indT λt ih u h=>pf Tryz.func32 (by kernel_rfl) C1.F32_ok (s2 (sta_T t) (sta_T u)) (plain_wp hm ih h)
theorem hpre0 (s:List UInt8)(c:UInt8):PF A 204 [.str s,.str [c]] (.bool (hd c s)) :=
 pf Tryz.func204 (by kernel_rfl) C1.F204_ok (s2 trivial trivial) hasPre0_wp
theorem hpre (s:List UInt8)(c:UInt8):PF A 185 [.str s,.str [c]] (.bool (hd c s)) :=
 pf Tryz.func185 (by kernel_rfl) C1.F185_ok (s2 trivial trivial) (hasPre_wp hm hpre0)
theorem tpre0 (s:List UInt8)(c:UInt8):PF A 205 [.str s,.str [c]] (.str (if hd c s then s.drop 1 else s)) :=
 pf Tryz.func205 (by kernel_rfl) C1.F205_ok (s2 trivial trivial) (trimPre0_wp hm hpre0)
theorem tpre (s:List UInt8)(c:UInt8):PF A 186 [.str s,.str [c]] (.str (if hd c s then s.drop 1 else s)) :=
 pf Tryz.func186 (by kernel_rfl) C1.F186_ok (s2 trivial trivial) (trimPre_wp hm tpre0)
theorem digit (b:UInt8):PF A 195 [.int .u8 b.toNat] (.bool (dig b)) :=
 pf Tryz.func195 (by kernel_rfl) C1.F195_ok (s1 trivial) digit_wp
theorem run (s:List UInt8)(h:s.length<9223372036854775807):PF A 164 [.str s] (.int .i64 (runB s)) :=
 pf Tryz.func164 (by kernel_rfl) C1.F164_ok (s1 trivial) (run_wp hm digit h)
theorem cut (s:List UInt8)(h:s.length<9223372036854775807):PF A 160 [.str s] (encCut (cutB s)) :=
 pf Tryz.func160 (by kernel_rfl) C1.F160_ok (s1 trivial) (cut_wp hm hpre tpre run h)
theorem ascii {cs:List UInt8}(h:cs.all (λb=>decide (b.toNat<128))=true):∀b∈cs,b.toNat<128:=λb hb=>of_decide_eq_true (List.all_eq_true.1 h b hb)
theorem tl48 (s:List UInt8):PF A 162 [.str s,.str [48]] (.str (trimL [48] s)):=sh_trimL (by decide) (ascii (by decide)) s
theorem tr48 (s:List UInt8)(h:s.length<9223372036854775807):PF A 163 [.str s,.str [48]] (.str (trimR [48] s)):=sh_trimR (by decide) (ascii (by decide)) s h
theorem exponent (e:List UInt8)(h:(expT e).all dig=true):PF A 161 [.str e] (encExp (expB e)) :=
 pf Tryz.func161 (by kernel_rfl) C1.F161_ok (s1 trivial) (exponent_wp hm hpre (λs=>sh_trimL (by decide) (ascii (by decide)) s) tl48 sh_atoi h)
theorem split (s:List UInt8)(h:s.length<9223372036854775807):PF A 132 [.str s] (encSplit (splitB s)) :=
 pf Tryz.func132 (by kernel_rfl) C1.F132_ok (s1 trivial) (split_wp hm cut exponent tl48 tr48 h)
theorem join (p:Parts3)(h:p.2.1.length<=1000):PF A 133 [encP p] (encJoin (joinB p)) :=
 pf Tryz.func133 (by kernel_rfl) C1.F133_ok (s1 ⟨trivial,trivial,trivial,trivial⟩) (join_wp hm run sh_itoa h)
theorem normal (s:List UInt8)(h:s.length<4294967281):PF A 81 [.str s] (encJoin (normB s)) :=
 pf Tryz.func81 (by kernel_rfl) C1.F81_ok (s1 trivial) (normal_wp hm split join (by omega))
theorem two (s:List UInt8):PF A 166 [.str s] (.int .i64 (twoB s)) :=
 pf Tryz.func166 (by kernel_rfl) C1.F166_ok (s1 trivial) two_wp
theorem within (s:List UInt8)(lo hi:Int):PF A 167 [.str s,.int .i64 lo,.int .i64 hi] (.bool (withinB s lo hi)) :=
 pf Tryz.func167 (by kernel_rfl) C1.F167_ok (s3 trivial trivial trivial) (within_wp hm two)
theorem days (y m:Int):PF A 168 [.int .i64 y,.int .i64 m] (.int .i64 (daysB y m)) :=
 pf Tryz.func168 (by kernel_rfl) C1.F168_ok (s2 trivial trivial) days_wp
theorem date (s:List UInt8):PF A 134 [.str s] (.bool (dateB s)) :=
 pf Tryz.func134 (by kernel_rfl) C1.F134_ok (s1 trivial) (date_wp hm two within days)
theorem clock (s:List UInt8)(h:s.length<9223372036854775807):PF A 135 [.str s] (.bool (clockB s)) :=
 pf Tryz.func135 (by kernel_rfl) C1.F135_ok (s1 trivial) (clock_wp hm within (λs h=>sh_trim (by decide) (ascii (by decide)) s h) h)
theorem hsuf0 (s:List UInt8)(c:UInt8)(h:s.length<9223372036854775807):PF A 197 [.str s,.str [c]] (.bool (tl c s)) :=
 pf Tryz.func197 (by kernel_rfl) C1.F197_ok (s2 trivial trivial) (hasSuf0_wp h)
theorem hsuf (s:List UInt8)(c:UInt8)(h:s.length<9223372036854775807):PF A 170 [.str s,.str [c]] (.bool (tl c s)) :=
 pf Tryz.func170 (by kernel_rfl) C1.F170_ok (s2 trivial trivial) (hasSuf_wp hm hsuf0 h)
theorem zone (s:List UInt8)(h:s.length<9223372036854775807):PF A 136 [.str s] (encZ (zoneB s)) :=
 pf Tryz.func136 (by kernel_rfl) C1.F136_ok (s1 trivial) (zone_wp hm hsuf within h)
theorem idxByte (s:List UInt8)(c:UInt8):PF A 213 [.str s,.int .u8 c.toNat] (.int .i64 (idxB c s 0)) :=
 pf Tryz.func213 (by kernel_rfl) C1.F213_ok (s2 trivial trivial) idxByte_wp
theorem idx1 (s:List UInt8):PF A 198 [.str s,.str [84]] (.int .i64 (idxB 84 s 0)) :=
 pf Tryz.func198 (by kernel_rfl) C1.F198_ok (s2 trivial trivial) (idx1_wp hm idxByte)
theorem cutL (s:List UInt8)(h:s.length<4294967281):PF A 171 [.str s,.str [84]] (.tup [.str (cutC 84 s).1,.str (cutC 84 s).2.1,.bool (cutC 84 s).2.2]) :=
 pf Tryz.func171 (by kernel_rfl) C1.F171_ok (s2 trivial trivial) (cutL_wp hm idx1 (by omega))
theorem cutS (s:List UInt8)(h:s.length<4294967281):PF A 137 [.str s,.str [84]] (.tup [.str (cutC 84 s).1,.str (cutC 84 s).2.1,.bool (cutC 84 s).2.2]) :=
 pf Tryz.func137 (by kernel_rfl) C1.F137_ok (s2 trivial trivial) (cutS_wp hm (cutL s h))
theorem time (s:List UInt8)(h:s.length<4294967281):PF A 83 [.str s] (.bool (timeB s)) :=
 pf Tryz.func83 (by kernel_rfl) C1.F83_ok (s1 trivial) (time_wp hm date clock zone cutS h)
theorem rowU (b:UInt8):PF A 172 [.int .u8 b.toNat] (encLead (leadB b.toNat)) :=
 pf Tryz.func172 (by kernel_rfl) C1.F172_ok (s1 trivial) (row_wp hm b)
theorem charU (c:Int):PF A 173 [.int .i64 c] (.bool (charB c)) :=
 pf Tryz.func173 (by kernel_rfl) C1.F173_ok (s1 trivial) charB_wp
theorem firstU (s:List UInt8)(h:s.length<4611686018427387904):PF A 138 [.str s] (encFirst (firstC s)) :=
 pf Tryz.func138 (by kernel_rfl) C1.F138_ok (s1 trivial) (first_wp hm rowU charU h)
theorem badU (s:List UInt8)(h:s.length<4611686018427387904):PF A 86 [.str s] (.int .i64 (badI s 0)) :=
 pf Tryz.func86 (by kernel_rfl) C1.F86_ok (s1 trivial) (bad_wp hm firstU h)
theorem runs:PF A 3 [] (.bool true) :=
 PF.of_init gtSta trivial (AC_mono _ _ _ _ _ (exec2_sound Tryz.checked.mixed C1.tabOK prims 200 3 [] St.init retTrue ran) λr S1 q=>by
  cases r with
  | ret x=>cases x<;>simp only[retTrue,Bool.false_eq_true]at q;subst q;exact⟨_,rfl,by simp only[Rdo]⟩
  | pan x=>simp[retTrue]at q)
end Go.Proofs.YthgidapmofcloaaGreatDoor.Fn

namespace Go.Dn
open Go Go.Proofs.C1
set_option maxRecDepth 100000
attribute [local irreducible] afterS keepE
theorem ofBytes_app (a b:List UInt8):ofBytes (a++b)=ofBytes a++ofBytes b:=by simp[ofBytes]
theorem ofBytes_len (a:List UInt8):(ofBytes a).length=a.length:=by simp[ofBytes]
theorem bytes_of:∀a:List UInt8,bytes? (ofBytes a)=some a
 | []=>rfl
 | x::r=>by
  have:=bytes_of r;simp only[ofBytes]at this;simp[ofBytes,bytes?,this]
theorem sx_cvBS {gt:GT}{d:Option Nat}{env:Env}{S:St}{x:DOpd}{o:SI}{xs ys:List AV}{s:List UInt8}(hx:opd env x=some (.sl 1 o xs))(he:elems S false 1 o xs=some ys)(hy:bytes? ys=some s) :
  stepO gt d env S (.cvBS x)=.done (putV d (.str s) env) S:=by
 simp only[stepO,hx,he,Option.bind_some,hy,Option.map_some,SR.val]

section
variable {gt:GT}{C:CallT}
end

section
variable {gt:GT}{C:CallT}
end

section
variable {gt:GT}{C:CallT}
end
end Go.Dn

namespace Go.Dn
open Go
theorem dropW_nil {p:UInt8->Bool}:∀{l:List UInt8},l.dropWhile p=[]↔∀x∈l,p x=true
 | []=>by simp
 | a::r=>by
  rw[List.dropWhile_cons];by_cases h:p a=true
  ·rw[if_pos h,dropW_nil];simp only[List.mem_cons,forall_eq_or_imp,h,true_and]
  ·rw[if_neg h];simp only[List.mem_cons,forall_eq_or_imp,h,false_and,reduceCtorEq]
theorem trimR_app {cs z r:List UInt8}(h:trimR cs r≠[]):trimR cs (z++r)=z++trimR cs r:=by
 unfold trimR at h ⊢;rw[List.reverse_append,List.dropWhile_append,if_neg (by simpa using h),List.reverse_append,List.reverse_reverse]
theorem trimR_pre (cs r:List UInt8):trimR cs r <+: r:=by
 unfold trimR;rw[<-List.reverse_suffix,List.reverse_reverse];exact List.dropWhile_suffix _
theorem trimL_all {cs z:List UInt8}(h:∀x∈z,cs.contains x=true):trimL cs z=[]:=dropW_nil.2 h
theorem trimR_all {cs z:List UInt8}(h:∀x∈z,cs.contains x=true):trimR cs z=[]:=by
 unfold trimR;rw[dropW_nil.2 λx hx=>h x (List.mem_reverse.1 hx)];rfl
theorem trimR_head {cs:List UInt8}{b:UInt8}{r:List UInt8}(h:cs.contains b=false):trimR cs (b::r)≠[]/\trimL cs (trimR cs (b::r))=trimR cs (b::r):=by
 have h1:trimR cs (b::r)≠[]:=by
  intro e;unfold trimR at e;rw[List.reverse_eq_nil_iff,dropW_nil]at e;have:=e b (by simp);rw[h]at this;cases this
 refine⟨h1,?_⟩;obtain⟨t,ht⟩:=trimR_pre cs (b::r);cases hh:trimR cs (b::r) with
 | nil=>exact absurd hh h1
 | cons c q =>
  rw[hh]at ht;simp only[List.cons_append,List.cons.injEq]at ht;obtain⟨rfl,_⟩:=ht;unfold trimL;rw[List.dropWhile_cons_of_neg (by rw[h];simp)]
theorem trim_comm (cs d:List UInt8):trimL cs (trimR cs d)=trimR cs (trimL cs d)/\(trimR cs (trimL cs d)≠[]->d.length-(trimR cs d).length=(trimL cs d).length-(trimR cs (trimL cs d)).length):=by
 have hd:=List.takeWhile_append_dropWhile (p:=(cs.contains ·)) (l:=d);have hz:∀x∈d.takeWhile (cs.contains ·),cs.contains x=true:=λx hx=>List.all_takeWhile (l:=d) (p:=(cs.contains ·)) |> λh=>by
  have:=List.all_eq_true.1 h x hx;simpa using this
 cases hr:d.dropWhile (cs.contains ·) with
 | nil =>
  rw[hr,List.append_nil]at hd;rw[hd]at hz;rw[trimR_all hz,trimL_all hz];exact⟨rfl,λh=>absurd rfl h⟩
 | cons b r =>
  have hb:cs.contains b=false:=by
   have:=List.head_dropWhile_not (p:=(cs.contains ·)) (l:=d) (by rw[hr];simp);simp only[hr,List.head_cons]at this;exact this
  rw[hr]at hd;have hL:trimL cs d=b::r:=hr;obtain⟨h1,h2⟩:=trimR_head (r:=r) hb;have hR:trimR cs d=d.takeWhile (cs.contains ·)++trimR cs (b::r):=by
   conv=>lhs;rw[<-hd]
   exact trimR_app h1
  rw[hL];refine⟨?_,λ_=>?_⟩
  ·rw[hR];unfold trimL;rw[List.dropWhile_append,dropW_nil.2 hz];exact h2
  ·rw[hR,lA];have:=congrArg List.length hd;rw[lA]at this;omega
end Go.Dn

namespace Go.Dn
open Go Go.Proofs.C1
set_option maxRecDepth 100000
attribute [local irreducible] afterS keepE
theorem decB_step {n:Nat}(h:¬n<10):decB n=decB (n / 10)++[UInt8.ofNat (48+n % 10)]:=by
 conv=>lhs;unfold decB
 rw[dif_neg h]
theorem decB_last {n:Nat}(h:n<10):decB n=[UInt8.ofNat (48+n)]:=by
 unfold decB;rw[dif_pos h]
theorem decB_le {n k:Nat}(h:n<10 ^ (k+1)):(decB n).length<=k+1:=by
 induction k generalizing n with
 | zero=>rw[decB_last (by omega)];simp
 | succ k ih =>
  by_cases h10:n<10
  ·rw[decB_last h10];simp
  ·rw[decB_step h10];rw[pow1]at h;have:=ih (n:=n / 10) (by omega);simp only[lA,lC,lN];omega
theorem wrapU (n:Int):IntKind.u64.wrap n=n % 18446744073709551616:=by simp[IntKind.wrap,IntKind.bits,IntKind.signed]
theorem digByte {m:Nat}(h:m<10):wr .u8 (wr .i64 (48+(m:Int)))=((UInt8.ofNat (48+m)).toNat:Int):=by
 rw[wr64 (by omega) (by omega),show (48:Int)+(m:Int)=((48+m:Nat):Int) by omega,UInt8.toNat_ofNat',Nat.mod_eq_of_lt (by omega)];rw[wr8 (by omega) (by omega)]
section
variable {gt:GT}{C:CallT}
abbrev E_dg (n:Int)(o:SI)(acc:List UInt8):Env:=[(0,.val (.int .i64 n)),(3,.val (.sl 1 o (ofBytes acc)))]
abbrev E_dg2 (o:SI)(acc:List UInt8)(o2:SI)(out:List UInt8)(i:Int):Env:=[(3,.val (.sl 1 o (ofBytes acc))),(4,.val (.sl 1 o2 (ofBytes out))),(5,.val (.int .i64 i))]
set_option maxHeartbeats 4000000 in
theorem digits_wp (hm:MonoC C){n0:Nat}(hn:n0<9223372036854775808):wpF gt C F178 [.int .i64 n0] St.init (Ret (.str (decB n0))):=by
 have hlen:(decB n0).length<=19:=decB_le (k:=18) (Nat.lt_of_lt_of_le hn (by decide));have hR:=Hs.init.addNil 5 false;refine⟨rfl,?_⟩;refine goW ?_;refine loop_rule hm (α:=Nat×List UInt8) (λa env S'=>a.1<=n0/\∃o,Hs S' [.gr 5 o (ofBytes a.2)]/\env=E_dg a.1 o a.2/\decB n0=decB a.1++a.2.reverse) (λa=>a.1) ?_ (a:=(n0,[])) ⟨nR _,_,hR,rfl,by simp⟩;rintro⟨n,acc⟩ env S' ⟨hle,o,hR,rfl,hf⟩;simp only at hle hR hf;have hfl:=congrArg List.length hf;rw[lA,List.length_reverse]at hfl;have e1:(n:Int).tmod 10=((n % 10:Nat):Int):=by rw[Int.ofNat_tmod];rfl
 have e2:(n:Int).tdiv 10=((n / 10:Nat):Int):=by rw[Int.ofNat_tdiv];rfl
 refine goW ?_;by_cases h9:(n:Int) > 9
 ·rw[dT h9];refine goW ?_;obtain⟨hR,hsrc⟩:=hR.bldT 5 1;refine r_app hR 0 rfl trivial rfl rfl (hsrc _ _ _) (by rw[ofBytes_len];simp;omega) (by rw[ofBytes_len];simp;omega) (by decide) (by decide) rfl ?_;intro o3 S3 hR;refine goW ?_;have e3:ofBytes acc++[.int .u8 (wr .u8 (wr .i64 (48+((n:Int).tmod 10))))]=ofBytes (acc++[UInt8.ofNat (48+n % 10)]):=by rw[e1,digByte (by omega),ofBytes_app];rfl
  refine⟨(n / 10,acc++[UInt8.ofNat (48+n % 10)]),⟨by simp only;omega,o3,by rw[<-e3];exact hR,?_,?_⟩,by simp only;omega⟩
  ·simp only[E_dg];rw[<-e3,e2,wr64 (by omega) (by omega)]
   try rfl
  ·simp only;rw[hf,decB_step (n:=n) (by omega),List.reverse_append,aA];rfl
 rw[dF h9];rw[decB_last (n:=n) (by omega)]at hf hfl;refine goW ?_;obtain⟨hR,hsrc⟩:=hR.bldT 5 1;refine r_app hR 0 rfl trivial rfl rfl (hsrc _ _ _) (by rw[ofBytes_len];simp;omega) (by rw[ofBytes_len];simp;omega) (by decide) (by decide) rfl ?_;intro o3 S3 hR;have e3:ofBytes acc++[.int .u8 (wr .u8 (wr .i64 (48+(n:Int))))]=ofBytes (acc++[UInt8.ofNat (48+n)]):=by rw[digByte (by omega),ofBytes_app];rfl
 have hR:=hR.addNil 5 false;have hf2:decB n0=(acc++[UInt8.ofNat (48+n)]).reverse:=by rw[hf,List.reverse_append];rfl
 generalize acc++[UInt8.ofNat (48+n)]=ac2 at e3 hf2;have hl2:ac2.length<=19:=by rw[<-List.length_reverse,<-hf2];exact hlen
 have hR:Hs S3 [.gr 5 o3 (ofBytes ac2),.gr 5 ⟨none,0,some 0,false⟩ (ofBytes [])]:=by rw[<-e3];exact hR
 have ln:=ofBytes_len ac2;refine goW ?_;rw[show ofBytes acc++(List.replicate 1 (AV.int IntKind.u8 0)).set 0 (AV.int IntKind.u8 (wr IntKind.u8 (wr IntKind.i64 (48+(n:Int)))))=ofBytes ac2 from e3];refine loop_rule hm (α:=Nat) (λi env S'=>i<=ac2.length/\∃o2,Hs S' [.gr 5 o3 (ofBytes ac2),.gr 5 o2 (ofBytes (ac2.reverse.take i))]/\env=E_dg2 o3 ac2 o2 (ac2.reverse.take i) ((ac2.length:Int)-1-i)) (λi=>ac2.length-i) ?_ (a:=0) ⟨Nat.zero_le _,_,hR,?_⟩
 case refine_2 =>
  simp only[E_dg2];rw[wr64 (by omega) (by omega),ln];simp
  try rfl
 rintro i env S' ⟨hi,o2,hR,rfl⟩;refine goW ?_;by_cases hc:((ac2.length:Int)-1-i) ≥ 0
 ·rw[dT hc];refine goW ?_;have hik:ac2.length-1-i<ac2.length:=by omega
  have hge:(ofBytes ac2)[ac2.length-1-i]? = some (.int .u8 (ac2[ac2.length-1-i]).toNat):=by
   simp only[ofBytes,List.getElem?_map,gE hik,Option.map_some]
  rw[show (ac2.length:Int)-1-i=((ac2.length-1-i:Nat):Int) by omega];refine step_ruleO (sx_ia (k:=ac2.length-1-i) rfl rfl (by omega)) (goW ?_);refine step_ruleO (sx_ldEl (agg:=false) rfl ((hR.ok 0 _ rfl).els false 1) hge rfl) (goW ?_);obtain⟨hR,hsrc⟩:=hR.bldT 5 1;refine r_app hR 1 rfl trivial rfl rfl (hsrc _ _ _) (by rw[ofBytes_len,lT];simp;omega) (by rw[ofBytes_len,lT];simp;omega) (by decide) (by decide) rfl ?_;intro o4 S4 hR;refine goW ?_;have e4:ofBytes (ac2.reverse.take i)++[.int .u8 (ac2[ac2.length-1-i].toNat:Int)]=ofBytes (ac2.reverse.take (i+1)):=by
   rw[tS (by rw[List.length_reverse];omega),ofBytes_app,List.getElem_reverse];rfl
  refine⟨i+1,⟨by omega,o4,by rw[<-e4];exact hR,?_⟩,by omega⟩;simp only[E_dg2];rw[<-e4,wr64 (by omega) (by omega),show ((ac2.length-1-i:Nat):Int)-1=(ac2.length:Int)-1-((i+1:Nat):Int) by omega]
  try rfl
 ·rw[dF hc];refine goW ?_;rw[List.take_of_length_le (by rw[List.length_reverse];omega)]at hR ⊢;rw[hf2];have hel:=(hR.ok 1 _ rfl).els false 1;refine step_ruleO (sx_cvBS rfl hel (bytes_of _)) (goW ?_);exact⟨_,rfl,Ret.sta trivial⟩
set_option maxHeartbeats 4000000 in
theorem decimal_wp (hm:MonoC C)(hd:∀n:Nat,n<9223372036854775808->PF C 178 [.int .i64 n] (.str (decB n))){e:Int}(h1:-999999<=e)(h2:e<=999999):wpF gt C F148 [.int .i64 e] St.init (Ret (.str (itoaB e))):=by
 refine⟨rfl,?_⟩;refine goW ?_;by_cases h0:e ≥ 0
 ·rw[dT h0];obtain⟨n,rfl⟩:∃n:Nat,e=n:=⟨e.toNat,by omega⟩
  refine goW ?_;refine call_pf hm (by rfl) (hd n (by omega)) (goW ?_);refine⟨_,rfl,?_⟩;rw[show itoaB (n:Int)=decB n by unfold itoaB;rw[if_neg (by omega),Int.toNat_natCast]];exact Ret.sta trivial
 ·rw[dF h0];obtain⟨n,hn,rfl⟩:∃n:Nat,0<n/\e=-(n:Int):=⟨e.natAbs,by omega,by omega⟩
  have hi:itoaB (-(n:Int))=45::decB n:=by unfold itoaB;rw[if_pos (by omega),Int.natAbs_neg,Int.natAbs_natCast]
  have w0:wr .u64 (-(n:Int))=18446744073709551616-(n:Int):=by rw[wr_eq,wrapU];omega
  have w1:wr .u64 (0-(18446744073709551616-(n:Int)))=(n:Int):=by rw[wr_eq,wrapU];omega
  have e1:(n:Int).tmod 10=((n % 10:Nat):Int):=by rw[Int.ofNat_tmod];rfl
  have e2:(n:Int).tdiv 10=((n / 10:Nat):Int):=by rw[Int.ofNat_tdiv];rfl
  have hw:∀m:Nat,m<=999999->wr .u64 (m:Int)=m:=λm hm=>by rw[wr_eq,wrapU];omega
  refine goW ?_;rw[w0,w1,e1,wr64 (n:=((n % 10:Nat):Int)) (by omega) (by omega)];refine call_pf hm (by rfl) (hd (n % 10) (by omega)) (goW ?_);by_cases h10:(n:Int) ≥ 10
  ·rw[dT h10];refine goW ?_;rw[e2,hw _ (by omega),wr64 (n:=((n / 10:Nat):Int)) (by omega) (by omega)];refine call_pf hm (by rfl) (hd (n / 10) (by omega)) (goW ?_);have q1:(decB (n / 10)).length<=6:=decB_le (k:=5) (by omega);have q2:(decB (n % 10)).length<=6:=decB_le (k:=5) (by omega);have q3:decB (n / 10)++decB (n % 10)=decB n:=by rw[decB_step (n:=n) (by omega),decB_last (n:=n % 10) (by omega)]
   refine step_ruleO (st_addS rfl rfl (by omega)) ?_;rw[q3];have q4:(decB n).length<=6:=decB_le (k:=5) (by omega);refine goW ?_;refine step_ruleO (st_addS rfl rfl (by simp only[lC,lN];omega)) (goW ?_);refine⟨_,rfl,?_⟩;rw[hi];exact Ret.sta trivial
  ·rw[dF h10];refine goW ?_;rw[Nat.mod_eq_of_lt (by omega:n<10)];have q4:(decB n).length<=6:=decB_le (k:=5) (by omega);refine step_ruleO (st_addS rfl rfl (by simp only[lC,lN];omega)) (goW ?_);refine⟨_,rfl,?_⟩;rw[hi];exact Ret.sta trivial
end

theorem trimR_snoc (cs d:List UInt8)(b:UInt8):trimR cs (d++[b])=if cs.contains b=true then trimR cs d else d++[b]:=by
 unfold trimR;rw[List.reverse_append,List.reverse_singleton,List.singleton_append,List.dropWhile_cons];split
 ·rfl
 ·rw[List.reverse_cons,List.reverse_reverse]
theorem trimL_cons (cs d:List UInt8)(b:UInt8):trimL cs (b::d)=if cs.contains b=true then trimL cs d else b::d:=by
 unfold trimL;rw[List.dropWhile_cons]
theorem has48 (b:UInt8):([48]:List UInt8).contains b=(b == 48):=by
 rw[List.contains_cons,List.contains_nil,Bool.or_false]
abbrev zP:List AV:=[.bool false,.str [],.int .i64 0]
section
variable {gt:GT}{C:CallT}
theorem digitR_wp {b:UInt8}:wpF gt C F147 [.int .u8 b.toNat] St.init (Ret (.bool (dig b))):=by
 refine⟨rfl,?_⟩;refine goW ?_;by_cases h1:(b.toNat:Int) ≥ 48
 ·rw[dT h1];refine goW ?_;refine⟨_,rfl,?_⟩;rw[show dig b=decide ((b.toNat:Int)<=57) by unfold dig;rw[dT (show 48<=b.toNat by omega),Bool.true_and];congr 1;simp;omega];exact Ret.sta trivial
 ·rw[dF h1];refine goW ?_;refine⟨_,rfl,?_⟩;rw[show dig b=false by unfold dig;rw[dF (show ¬48<=b.toNat by omega),Bool.false_and]];exact Ret.sta trivial
abbrev E_runR (s:List UInt8)(i:Int):Env:=[(0,.val (.str s)),(1,.val (.int .i64 i))]
set_option maxHeartbeats 2000000 in
theorem runR_wp (hm:MonoC C)(hd:∀b:UInt8,PF C 147 [.int .u8 b.toNat] (.bool (dig b))){s:List UInt8}{k:Nat}(hk:k<=s.length)(hl:s.length<4611686018427387904):wpF gt C F146 [.str s,.int .i64 k] St.init (Ret (.int .i64 ((k+runB (s.drop k):Nat):Int))):=by
 refine⟨rfl,?_⟩;refine goW ?_;refine loop_rule hm (α:=Nat) (λi env S'=>i<=s.length/\env=E_runR s i/\S'=St.init/\k+runB (s.drop k)=i+runB (s.drop i)) (λi=>s.length-i) ?_ (a:=k) ⟨hk,rfl,rfl,rfl⟩;rintro i env S' ⟨hi,rfl,rfl,hp⟩;refine goW ?_;by_cases hc:(i:Int)<(s.length:Nat)
 ·rw[dT hc];refine goW ?_;have hik:i<s.length:=by omega
  refine st_any (by exact rfl) (sx_ixS (k:=i) rfl rfl (gE hik)) (goW ?_);refine call_pf hm (by rfl) (hd s[i]) ?_;rw[dC hik]at hp;simp only[runB]at hp;cases hdg:dig s[i] with
  | false =>
   refine goW ?_;refine⟨_,rfl,?_⟩;rw[hdg]at hp;rw[hp];exact Ret.sta trivial
  | true =>
   refine goW ?_;rw[hdg,if_pos rfl]at hp;refine⟨i+1,⟨by omega,?_,rfl,by rw[hp];omega⟩,by omega⟩;rw[wrNat (by omega)]
 ·rw[dF hc];refine goW ?_;refine⟨_,rfl,?_⟩;rw[hp,List.drop_eq_nil_of_le (by omega)];exact Ret.sta trivial
abbrev E_d (s:List UInt8)(e:Int)(d:List UInt8):Env:=[(0,.val (.str s)),(2,.box zP),(12,.val (.int .i64 e)),(14,.val (.str d))]
set_option maxHeartbeats 4000000 in
theorem splitL_wp (hm:MonoC C){s d:List UInt8}{e:Int}{z:Env}{res:Parts3×Int}(hs:s≠[])
  (hf:res=if trimL [48] d=[] then (zeroP,0) else ((hd 45 s,trimL [48] d,e),0)) :
  wpD gt C F106.body.rt.rt.rt.rt.rt.rt.rt.rt.rt.rt.rt.rt.rt.rt.rt.rt.rt.rt.rt.rt.rt ((0,.val (.str s))::(2,.box zP)::(12,.val (.int .i64 e))::(14,.val (.str d))::z) St.init (bodyQ gt F106.res (Ret (encSplit res))):=by
 have ret:∀{o:Parts3×Int} {S:St},res=o->Ret (encSplit res) (.ret (encSplit o)) S:=λh=>by rw[h];exact Ret.sta (sta_split _)
 obtain⟨b0,hb0⟩:=get0 hs;rw[hd_head (c:=45) hb0]at hf
 conv=>whnf
 refine goW ?_;refine loop_rule hm (α:=List UInt8) (λd' env S'=>env=E_d s e d'/\S'=St.init/\trimL [48] d=trimL [48] d') (λd'=>d'.length) ?_ (a:=d) ⟨rfl,rfl,rfl⟩;rintro d' env S' ⟨rfl,rfl,ht2⟩;rw[ht2]at hf;refine goW ?_;cases d' with
 | nil =>
  rw[dF (show ¬((([]:List UInt8).length:Nat):Int) > 0 by simp)];refine goW ?_;exact⟨_,rfl,ret (o:=(zeroP,0)) (by rw[hf,if_pos (show trimL [48] ([]:List UInt8)=[] from rfl)])⟩
 | cons c r =>
  have hcr:(c::r)[0]? = some c:=rfl;have hdr:(c::r).drop 1=r:=rfl;have hlc:(c::r).length=r.length+1:=rfl;rw[trimL_cons,has48]at hf ht2;generalize hd2:c::r=d2 at hcr hdr hlc hf ht2 ⊢;rw[dT (show ((d2.length:Nat):Int) > 0 by omega)];refine goW ?_;refine st_any (by exact rfl) (sx_ixS (k:=0) rfl rfl hcr) (goW ?_);rw[show ((c.toNat:Int) == 48)=(c == 48) from u8_eqI c 48];cases hc:(c == 48) with
  | true =>
   rw[hc,if_pos rfl]at ht2;refine goW ?_;refine step_ruleO (sx_slLo (l:=1) rfl rfl (by omega)) ?_;rw[hdr];refine goW ?_;exact⟨r,⟨rfl,rfl,ht2⟩,by omega⟩
  | false =>
   rw[hc]at hf;simp only[Bool.false_eq_true,if_false]at hf;have hn2:d2≠[]:=λe=>by rw[e]at hlc;simp at hlc
   rw[if_neg hn2]at hf;refine goW ?_;rw[beqB_false hn2];refine goW ?_;refine step_ruleO (sx_ixS (k:=0) rfl rfl hb0) (goW ?_);rw[show ((b0.toNat:Int) == 45)=(b0 == 45) from u8_eqI b0 45];exact⟨_,rfl,ret hf⟩
set_option maxHeartbeats 4000000 in
theorem splitEnd_wp (hm:MonoC C){s w p:List UInt8}{x:Int}{z:Env}{res:Parts3×Int}(hx1:-999999<=x)(hx2:x<=999999)(hs:s≠[])(hl:w.length+p.length<=1000)
  (hf:res=if trimL [48] (trimR [48] (w++p))=[] then (zeroP,0) else ((hd 45 s,trimL [48] (trimR [48] (w++p)),x-p.length+((w++p).length-(trimR [48] (w++p)).length:Nat)),0)) :
  wpD gt C F106.body.rt.rt.rt.rt.rt.rt.rt.rt.rt.rt.rt.rt.rt.rt.rt.rt.rt.rt ((0,.val (.str s))::(2,.box zP)::(6,.val (.str w))::(7,.val (.str p))::(12,.val (.int .i64 x))::z) St.init (bodyQ gt F106.res (Ret (encSplit res))):=by
 conv=>whnf
 refine goW ?_;refine step_ruleO (st_addS rfl rfl (by omega)) (goW ?_);rw[wr64 (n:=x-(p.length:Int)) (by omega) (by omega)];have hl2:(w++p).length=w.length+p.length:=lA;generalize w++p=d0 at hf hl2 ⊢;refine loop_rule hm (α:=List UInt8) (λd env S'=>d.length<=d0.length/\env=E_d s (x-p.length+(d0.length-d.length:Nat)) d/\S'=St.init/\trimR [48] d0=trimR [48] d) (λd=>d.length) ?_ (a:=d0) ⟨nR _,by rw[Nat.sub_self];simp only[E_d];rw[show x-(p.length:Int)+((0:Nat):Int)=x-p.length by omega],rfl,rfl⟩;rintro d env S' ⟨hdl,rfl,rfl,ht⟩;have second:=λ(h:trimR [48] d=d) (z:Env)=>splitL_wp (gt:=gt) (d:=d) (e:=x-p.length+(d0.length-d.length:Nat)) (z:=z) hm hs (res:=res) (by rw[hf,ht,h]);refine goW ?_;rcases List.eq_nil_or_concat d with rfl | ⟨q,b,rfl⟩
 ·rw[dF (show ¬((([]:List UInt8).length:Nat):Int) > 0 by simp)];refine goK ?_
  with_unfolding_all exact second rfl _
 rw[List.concat_eq_append]at *;have hlq:(q++[b]).length=q.length+1:=by rw[lA];rfl
 have hlast:(q++[b])[q.length]? = some b:=by rw[List.getElem?_append_right (nR _),Nat.sub_self];rfl
 rw[trimR_snoc,has48]at ht second;have htk:(q++[b]).take q.length=q:=by simp
 generalize hd':q++[b]=d at hdl hlq hlast htk ht second ⊢;rw[dT (show ((d.length:Nat):Int) > 0 by omega)];refine goW ?_;rw[show wr .i64 ((d.length:Int)-1)=((q.length:Nat):Int) by rw[wr64 (by omega) (by omega)];omega];refine st_any (by exact rfl) (sx_ixS (k:=q.length) rfl rfl hlast) (goW ?_);rw[show ((b.toNat:Int) == 48)=(b == 48) from u8_eqI b 48];cases hb:(b == 48) with
 | true =>
  rw[hb,if_pos rfl]at ht;refine goW ?_;rw[show wr .i64 ((d.length:Int)-1)=((q.length:Nat):Int) by rw[wr64 (by omega) (by omega)];omega];refine step_ruleO (sx_slHiS (h:=q.length) rfl rfl (by omega)) ?_;rw[htk];refine goW ?_;refine⟨q,⟨by omega,?_,rfl,ht⟩,by omega⟩;simp only[E_d];rw[wr64 (by omega) (by omega),show x-(p.length:Int)+((d0.length-d.length:Nat):Int)+1=x-p.length+((d0.length-q.length:Nat):Int) by omega]
  try rfl
 | false =>
  rw[hb]at second;refine goK ?_
  with_unfolding_all exact second rfl _
end

def finS (s w p:List UInt8)(x:Int):Parts3×Int :=
 if trimL [48] (trimR [48] (w++p))=[] then (zeroP,0) else ((hd 45 s,trimL [48] (trimR [48] (w++p)),x-p.length+((w++p).length-(trimR [48] (w++p)).length:Nat)),0)
section
variable {gt:GT}{C:CallT}
abbrev E_val (s w p ex:List UInt8)(neg:Bool)(a i:Int):Env:=[(0,.val (.str s)),(2,.box zP),(6,.val (.str w)),(7,.val (.str p)),(9,.val (.str ex)),(10,.val (.bool neg)),(12,.val (.int .i64 a)),(13,.val (.int .i64 i))]
set_option maxHeartbeats 4000000 in
theorem splitVal_wp (hm:MonoC C){s w p ex:List UInt8}{neg:Bool}{z:Env}{res:Parts3×Int}(hs:s≠[])(hl:w.length+p.length<=1000)(hel:ex.length<4611686018427387904)(hd':ex.all dig=true)
  (hf:res=if 6<ex.length then (zeroP,5) else finS s w p (if neg=true then -(valB 0 ex:Int) else valB 0 ex)) :
  wpD gt C F106.body.rt.rt.rt.rt.rt.rt.rt.rt.rt.rt.rt.rt.rt.rt ((0,.val (.str s))::(2,.box zP)::(6,.val (.str w))::(7,.val (.str p))::(9,.val (.str ex))::(10,.val (.bool neg))::z) St.init (bodyQ gt F106.res (Ret (encSplit res))):=by
 have ret:∀{o:Parts3×Int} {S:St},res=o->Ret (encSplit res) (.ret (encSplit o)) S:=λh=>by rw[h];exact Ret.sta (sta_split _)
 conv=>whnf
 refine goW ?_;by_cases h6:(ex.length:Int) > 6
 ·rw[dT h6];refine goW ?_;exact⟨_,rfl,ret (o:=(zeroP,5)) (by rw[hf,if_pos (by omega)])⟩
 rw[dF h6];rw[if_neg (by omega)]at hf;refine goW ?_;refine loop_rule hm (α:=Nat×Nat) (λa env S'=>a.1<=ex.length/\a.2<10 ^ a.1/\env=E_val s w p ex neg a.2 a.1/\S'=St.init/\valB 0 ex=valB a.2 (ex.drop a.1)) (λa=>ex.length-a.1) ?_ (a:=(0,0)) ⟨Nat.zero_le _,by decide,rfl,rfl,rfl⟩;rintro⟨i,a⟩ env S' ⟨hi,ha,rfl,rfl,hv⟩;simp only at hi ha hv;have hp:10 ^ i<=10 ^ 6:=Nat.pow_le_pow_right (by decide) (by omega);have h10:(10:Nat) ^ 6=1000000:=by decide
 refine goW ?_;by_cases hc:(i:Int)<(ex.length:Nat)
 ·rw[dT hc];refine goW ?_;have hik:i<ex.length:=by omega
  refine step_ruleO (sx_ixS (k:=i) rfl rfl (gE hik)) ?_;rw[dC hik]at hv;have hdi:dig ex[i]=true:=List.all_eq_true.1 hd' _ (List.getElem_mem hik);generalize ex[i]=b at hv hdi ⊢;have hb:48<=b.toNat/\b.toNat<=57:=by simpa only[dig,bA,decide_eq_true_eq] using hdi
  refine goW ?_;refine⟨(i+1,a*10+(b.toNat-48)),⟨by simp only;omega,by simp only;rw[pow1];omega,?_,rfl,hv⟩,by simp only;omega⟩;simp only[E_val];rw[wrNat (by omega),wr8 (n:=(b.toNat:Int)-48) (by omega) (by omega),wr64 (n:=(b.toNat:Int)-48) (by omega) (by omega),wr64 (n:=(a:Int)*10) (by omega) (by omega),wr64 (n:=(a:Int)*10+((b.toNat:Int)-48)) (by omega) (by omega),
   show (a:Int)*10+((b.toNat:Int)-48)=((a*10+(b.toNat-48):Nat):Int) by omega]
  try rfl
 ·have hil:ex.length<=i:=by omega
  rw[List.drop_eq_nil_of_le hil]at hv;have hv2:valB 0 ex=a:=hv;rw[hv2]at hf
  clear hv2
  rw[dF hc];have b1:-999999<=(a:Int)/\(a:Int)<=999999:=⟨by omega,by omega⟩
  have b2:-999999<=-(a:Int)/\-(a:Int)<=999999:=⟨by omega,by omega⟩
  clear hp h10 ha hv
  refine goW ?_;cases neg with
  | false =>
   simp only[Bool.false_eq_true,if_false]at hf;refine goK ?_
   with_unfolding_all exact splitEnd_wp (gt:=gt) hm (x:=a) b1.1 b1.2 hs hl hf
  | true =>
   simp only[if_true]at hf;have e:wr .i64 (0-(a:Int))=-(a:Int):=by rw[wr64 (by omega) (by omega)];omega
   rw[<-e]at hf b2;refine goK ?_
   with_unfolding_all exact splitEnd_wp (gt:=gt) hm (x:=wr .i64 (0-(a:Int))) b2.1 b2.2 hs hl hf
end

def outS (s:List UInt8):Option Cut4->Parts3×Int
 | none=>(zeroP,12)
 | some (_,w,p,e)=>if 1000<s.length then (zeroP,2) else match expB e with
  | none=>(zeroP,5)
  | some x=>finS s w p x
def valS (s w p ex:List UInt8)(neg:Bool):Parts3×Int :=
 if 6<(trimL [48] ex).length then (zeroP,5) else finS s w p (if neg=true then -(valB 0 (trimL [48] ex):Int) else valB 0 (trimL [48] ex))
theorem expD_T {e:List UInt8}(h:(expD e).all dig=true):expT e=trimL [48] (expD e):=by
 unfold expT
 congr 1
 have key:∀l:List UInt8,l.all dig=true->trimL [43,45] l=l:=λl hl=>by
  cases l with
  | nil=>rfl
  | cons b r =>
   rw[trimL_cons];simp only[List.all_cons,bA]at hl;rw[dig_noSign hl.1];rfl
 unfold expD at h ⊢;cases e with
 | nil=>rfl
 | cons b r =>
  by_cases h1:hd 45 (b::r)=true
  ·rw[if_pos h1]at h ⊢;have:b=45:=by simpa[hd] using h1
   subst this;rw[trimL_cons,if_pos (by decide)];exact key r h
  ·rw[if_neg h1]at h ⊢;by_cases h2:hd 43 (b::r)=true
   ·rw[if_pos h2]at h ⊢;have:b=43:=by simpa[hd] using h2
    subst this;rw[trimL_cons,if_pos (by decide)];exact key r h
   ·rw[if_neg h2]at h ⊢;exact key (b::r) h
theorem outS_some {s w p e:List UInt8}{n:Bool}(h:(expD e).all dig=true):outS s (some (n,w,p,e))=if 1000<s.length then (zeroP,2) else valS s w p (expD e) (hd 45 e):=by
 simp only[outS];split
 ·rfl
 ·unfold expB valS;rw[expD_T h];by_cases h6:6<(trimL [48] (expD e)).length
  ·rw[if_pos h6,if_pos h6]
  ·rw[if_neg h6,if_neg h6]
section
variable {gt:GT}{C:CallT}
abbrev E_ex (s w p ex:List UInt8)(neg:Bool):Env:=[(0,.val (.str s)),(2,.box zP),(6,.val (.str w)),(7,.val (.str p)),(9,.val (.str ex)),(10,.val (.bool neg))]
set_option maxHeartbeats 4000000 in
theorem splitZ_wp (hm:MonoC C){s w p ex:List UInt8}{neg:Bool}{z:Env}{res:Parts3×Int}(hs:s≠[])(hl:w.length+p.length<=1000)(hel:ex.length<4611686018427387904)(hd':ex.all dig=true)
  (hf:res=valS s w p ex neg) :
  wpD gt C F106.body.rt.rt.rt.rt.rt.rt.rt.rt.rt.rt.rt.rt.rt ((0,.val (.str s))::(2,.box zP)::(6,.val (.str w))::(7,.val (.str p))::(9,.val (.str ex))::(10,.val (.bool neg))::z) St.init (bodyQ gt F106.res (Ret (encSplit res))):=by
 unfold valS at hf
 conv=>whnf
 refine goW ?_;refine loop_rule hm (α:=List UInt8) (λx env S'=>env=E_ex s w p x neg/\S'=St.init/\trimL [48] ex=trimL [48] x/\x.all dig=true/\x.length<4611686018427387904) (λx=>x.length) ?_ (a:=ex) ⟨rfl,rfl,rfl,hd',hel⟩;rintro x env S' ⟨rfl,rfl,ht,hxd,hxl⟩;rw[ht]at hf;have fin:=λ(h:trimL [48] x=x) (z:Env)=>splitVal_wp (gt:=gt) (z:=z) (res:=res) hm hs hl hxl hxd (by rw[hf,h]);refine goW ?_;cases x with
 | nil =>
  rw[dF (show ¬((([]:List UInt8).length:Nat):Int) > 0 by simp)];refine goK ?_
  with_unfolding_all exact fin rfl _
 | cons c r =>
  have hcr:(c::r)[0]? = some c:=rfl;have hdr:(c::r).drop 1=r:=rfl;have hlc:(c::r).length=r.length+1:=rfl;have hrd:r.all dig=true:=by simp only[List.all_cons,bA]at hxd;exact hxd.2
  rw[trimL_cons,has48]at ht fin;generalize hd2:c::r=d2 at hcr hdr hlc ht fin hxl ⊢;rw[dT (show ((d2.length:Nat):Int) > 0 by omega)];refine goW ?_;refine st_any (by exact rfl) (sx_ixS (k:=0) rfl rfl hcr) (goW ?_);rw[show ((c.toNat:Int) == 48)=(c == 48) from u8_eqI c 48];cases hc:(c == 48) with
  | true =>
   rw[hc,if_pos rfl]at ht;refine goW ?_;refine step_ruleO (sx_slLo (l:=1) rfl rfl (by omega)) ?_;rw[hdr];refine goW ?_;exact⟨r,⟨rfl,rfl,ht,hrd,by omega⟩,by omega⟩
  | false =>
   rw[hc]at fin;refine goK ?_
   with_unfolding_all exact fin rfl _
set_option maxHeartbeats 4000000 in
theorem splitLen_wp (hm:MonoC C){s w p ex:List UInt8}{neg:Bool}{a:Nat}{z:Env}{res:Parts3×Int}(hs:s≠[])(hsl:s.length<4611686018427387904)(hl:w.length+p.length<=s.length)(hel:ex.length<=s.length)(hd':ex.all dig=true)
  (hf:res=if a=s.length then (if 1000<s.length then (zeroP,2) else valS s w p ex neg) else (zeroP,12)) :
  wpD gt C F106.body.rt.rt.rt.rt.rt.rt.rt.rt.rt.rt.rt ((0,.val (.str s))::(2,.box zP)::(5,.val (.int .i64 a))::(6,.val (.str w))::(7,.val (.str p))::(9,.val (.str ex))::(10,.val (.bool neg))::z) St.init (bodyQ gt F106.res (Ret (encSplit res))):=by
 have ret:∀{o:Parts3×Int} {S:St},res=o->Ret (encSplit res) (.ret (encSplit o)) S:=λh=>by rw[h];exact Ret.sta (sta_split _)
 conv=>whnf
 refine goW ?_;by_cases ha:a=s.length
 case neg =>
  rw[neI_true (show ¬(a:Int)=s.length by omega)];refine goW ?_;exact⟨_,rfl,ret (o:=(zeroP,12)) (by rw[hf,if_neg ha])⟩
 rw[neI_false (show (a:Int)=s.length by omega)];rw[if_pos ha]at hf;refine goW ?_;by_cases h1:(s.length:Int) > 1000
 ·rw[dT h1];refine goW ?_;exact⟨_,rfl,ret (o:=(zeroP,2)) (by rw[hf,if_pos (by omega)])⟩
 rw[dF h1];rw[if_neg (by omega)]at hf;have fin:=λz=>splitZ_wp (gt:=gt) (z:=z) hm hs (by omega) (by omega) hd' hf;refine goK ?_
 with_unfolding_all exact fin _
end

def DC.lf:DC->DC |.seq a _=>a | c=>c
def DC.th:DC->DC |.cnd _ a _=>a | c=>c
theorem hd_drop {c:UInt8}{s:List UInt8}{a:Nat}(h:a<s.length):hd c (s.drop a)=(s[a] == c):=by
 rw[dC h];rfl
theorem hd_drop_end {c:UInt8}{s:List UInt8}{a:Nat}(h:¬a<s.length):hd c (s.drop a)=false:=by
 rw[List.drop_eq_nil_of_le (by omega)];rfl
theorem runB_take:∀s:List UInt8,(s.take (runB s)).all dig=true
 | []=>rfl
 | b::r=>by
  simp only[runB];split
  ·rename_i h;rw[List.take_succ_cons,List.all_cons,h,runB_take r];rfl
  ·rfl
section
variable {gt:GT}{C:CallT}
abbrev E_p (s w p ex:List UInt8)(neg:Bool)(a:Nat):Env:=[(0,.val (.str s)),(2,.box zP),(5,.val (.int .i64 a)),(6,.val (.str w)),(7,.val (.str p)),(9,.val (.str ex)),(10,.val (.bool neg))]
set_option maxHeartbeats 8000000 in
theorem expRun_wp (hm:MonoC C)(hrun:∀(s:List UInt8) (k:Nat),k<=s.length->s.length<4611686018427387904->PF C 146 [.str s,.int .i64 k] (.int .i64 ((k+runB (s.drop k):Nat):Int)))
  {s w p:List UInt8} {neg:Bool} {a:Nat} {z:Env} {Q:Ex->Env->St->Prop} (hsl:s.length<4611686018427387904) (ha:a<=s.length)
  (h0:runB (s.drop a)=0->Q .ret [(2,.box zP),(3,.val (.int .i64 12))] St.init) (h1:runB (s.drop a)≠0->Q .normal (E_p s w p ((s.drop a).take (runB (s.drop a))) neg (a+runB (s.drop a))) St.init) :
  wpD gt C F106.body.rt.rt.rt.rt.rt.rt.rt.rt.rt.rt.lf.rt.th.rt.rt ((0,.val (.str s))::(2,.box zP)::(5,.val (.int .i64 a))::(6,.val (.str w))::(7,.val (.str p))::(10,.val (.bool neg))::z) St.init Q:=by
 have hrun:=hrun s a ha hsl;have hle:=runB_le (s.drop a);rw[lD]at hle;generalize hr:runB (s.drop a)=r at hrun h0 h1 hle
 conv=>whnf
 refine goW ?_;refine call_pf hm (by rfl) hrun (goW ?_);by_cases hz:r=0
 ·rw[eqI_true (show ((a+r:Nat):Int)=a by omega)];refine goW ?_;exact h0 hz
 rw[eqI_false (show ¬((a+r:Nat):Int)=a by omega)];refine goW ?_;refine step_ruleO (sx_slLH (l:=a) (h:=a+r) rfl rfl rfl (by omega) (by omega)) ?_;rw[show ((s.drop a).take (a+r-a))=(s.drop a).take r by rw[Nat.add_sub_cancel_left]];refine goW ?_;exact h1 hz
set_option maxHeartbeats 8000000 in
theorem expIn_wp (hm:MonoC C)(hrun:∀(s:List UInt8) (k:Nat),k<=s.length->s.length<4611686018427387904->PF C 146 [.str s,.int .i64 k] (.int .i64 ((k+runB (s.drop k):Nat):Int)))
  {s w p x:List UInt8} {a:Nat} {z:Env} {Q:Ex->Env->St->Prop} (hsl:s.length<4611686018427387904) (ha:a<s.length)
  (h:∀pos,pos<=s.length->s.drop pos=expD (s.drop (a+1))->(runB (s.drop pos)=0->Q .ret [(2,.box zP),(3,.val (.int .i64 12))] St.init) /\
   (runB (s.drop pos)≠0->Q .normal (E_p s w p ((s.drop pos).take (runB (s.drop pos))) (hd 45 (s.drop (a+1))) (pos+runB (s.drop pos))) St.init)) :
  wpD gt C F106.body.rt.rt.rt.rt.rt.rt.rt.rt.rt.rt.lf.rt.th ((0,.val (.str s))::(2,.box zP)::(5,.val (.int .i64 a))::(6,.val (.str w))::(7,.val (.str p))::(9,.val (.str x))::(10,.val (.bool false))::z) St.init Q:=by
 conv=>whnf
 refine goW ?_;rw[wrNat (by omega)];by_cases hc:(((a+1:Nat):Int))<(s.length:Nat)
 case neg =>
  have hd0:s.drop (a+1)=[]:=List.drop_eq_nil_of_le (by omega);obtain⟨q1,q2⟩:=h (a+1) (by omega) (by rw[hd0];rfl);rw[show hd 45 (s.drop (a+1))=false by rw[hd0];rfl]at q2;rw[dF hc];refine goK ?_
  with_unfolding_all exact expRun_wp (gt:=gt) hm hrun hsl (by omega) q1 q2
 have hik:a+1<s.length:=by omega
 have hget:s[a+1]? = some s[a+1]:=gE hik;have hdd:s.drop (a+1)=s[a+1]::s.drop (a+2):=dC hik;have e45:hd 45 (s.drop (a+1))=(s[a+1] == 45):=by rw[hdd];rfl
 have e43:hd 43 (s.drop (a+1))=(s[a+1] == 43):=by rw[hdd];rfl
 have hexp:expD (s.drop (a+1))=if (s[a+1] == 45)=true then s.drop (a+2) else if (s[a+1] == 43)=true then s.drop (a+2) else s.drop (a+1):=by
  unfold expD;rw[e45,e43,List.drop_drop]
 rw[hexp]at h;rw[e45]at h
 clear hdd e45 e43 hexp
 generalize s[a+1]=b at hget h;rw[dT hc];refine goW ?_;refine st_any (by exact rfl) (sx_ixS (k:=a+1) rfl rfl hget) (goW ?_);rw[show ((b.toNat:Int) == 43)=(b == 43) from u8_eqI b 43];cases h43:(b == 43) with
 | true =>
  have h45:(b == 45)=false:=by
   rw[beq_iff_eq]at h43;subst h43;decide
  rw[h43,h45]at h;simp only[Bool.false_eq_true,if_false,if_true]at h;obtain⟨q1,q2⟩:=h (a+2) (by omega) rfl;refine goW ?_;refine step_ruleO (sx_ixS (k:=a+1) rfl rfl hget) (goW ?_);rw[show ((b.toNat:Int) == 45)=(b == 45) from u8_eqI b 45,h45,show wr .i64 (((a+1:Nat):Int)+1)=((a+2:Nat):Int) from wrNat (by omega)];refine goK ?_
  with_unfolding_all exact expRun_wp (gt:=gt) hm hrun hsl (by omega) q1 q2
 | false =>
  refine goW ?_;refine st_any (by exact rfl) (sx_ixS (k:=a+1) rfl rfl hget) (goW ?_);rw[show ((b.toNat:Int) == 45)=(b == 45) from u8_eqI b 45];cases h45:(b == 45) with
  | true =>
   rw[h45]at h;simp only[if_true]at h;obtain⟨q1,q2⟩:=h (a+2) (by omega) rfl;refine goW ?_;refine step_ruleO (sx_ixS (k:=a+1) rfl rfl hget) (goW ?_);rw[show ((b.toNat:Int) == 45)=(b == 45) from u8_eqI b 45,h45,show wr .i64 (((a+1:Nat):Int)+1)=((a+2:Nat):Int) from wrNat (by omega)];refine goK ?_
   with_unfolding_all exact expRun_wp (gt:=gt) hm hrun hsl (by omega) q1 q2
  | false =>
   rw[h43,h45]at h;simp only[Bool.false_eq_true,if_false]at h;obtain⟨q1,q2⟩:=h (a+1) (by omega) rfl;refine goK ?_
   with_unfolding_all exact expRun_wp (gt:=gt) hm hrun hsl (by omega) q1 q2
end

section
variable {gt:GT}{C:CallT}
set_option maxHeartbeats 8000000 in
theorem splitE_wp (hm:MonoC C)(hrun:∀(s:List UInt8) (k:Nat),k<=s.length->s.length<4611686018427387904->PF C 146 [.str s,.int .i64 k] (.int .i64 ((k+runB (s.drop k):Nat):Int)))
  {s w p:List UInt8} {n:Bool} {a:Nat} {z:Env} {res:Parts3×Int} (hs:s≠[]) (hsl:s.length<4611686018427387904) (ha:a<=s.length) (hl:w.length+p.length<=s.length)
  (hf:res=outS s (cutE n w p (s.drop a))) :
  wpD gt C F106.body.rt.rt.rt.rt.rt.rt.rt.rt ((0,.val (.str s))::(2,.box zP)::(5,.val (.int .i64 a))::(6,.val (.str w))::(7,.val (.str p))::z) St.init (bodyQ gt F106.res (Ret (encSplit res))):=by
 unfold cutE at hf
 conv=>whnf
 refine goW ?_;by_cases hc:(a:Int)<(s.length:Nat)
 case neg =>
  rw[dF hc];have hd0:s.drop a=[]:=List.drop_eq_nil_of_le (by omega);rw[hd0,if_pos rfl,outS_some (show (expD []).all dig=true from rfl)]at hf;have hae:a=s.length:=by omega
  have fin:=λz=>splitLen_wp (gt:=gt) (z:=z) (a:=a) (ex:=[]) (neg:=false) (res:=res) hm hs hsl hl (by simp) rfl (by rw[hf,if_pos hae];rfl);refine goK ?_
  with_unfolding_all exact fin _
 have hik:a<s.length:=by omega
 have hdr:s.drop a=s[a]::s.drop (a+1):=dC hik;have hget:s[a]? = some s[a]:=gE hik;generalize s[a]=b at hdr hget;rw[hdr,if_neg (show ¬b::s.drop (a+1)=[] by simp),show (b::s.drop (a+1)).drop 1=s.drop (a+1) from rfl,show hd 101 (b::s.drop (a+1))=(b == 101) from rfl,show hd 69 (b::s.drop (a+1))=(b == 69) from rfl]at hf
 clear hdr
 have hne:¬a=s.length:=by omega
 have notE:=λ(h:res=(zeroP,12)) (z:Env)=>splitLen_wp (gt:=gt) (z:=z) (a:=a) (ex:=[]) (neg:=false) (res:=res) hm hs hsl hl (by simp) rfl (by rw[h,if_neg hne]);have isE:((b == 101)=true\/(b == 69)=true)->∀pos,pos<=s.length->s.drop pos=expD (s.drop (a+1))->(runB (s.drop pos)=0->res=(zeroP,12)) /\
   (runB (s.drop pos)≠0->∀z,wpD gt C F106.body.rt.rt.rt.rt.rt.rt.rt.rt.rt.rt.rt ((0,.val (.str s))::(2,.box zP)::(5,.val (.int .i64 ((pos+runB (s.drop pos):Nat):Int)))::(6,.val (.str w))::(7,.val (.str p))::(9,.val (.str ((s.drop pos).take (runB (s.drop pos)))))::(10,.val (.bool (hd 45 (s.drop (a+1)))))::z) St.init (bodyQ gt F106.res (Ret (encSplit res)))):=λhb pos hp he=>by
  have hle:=runB_le (s.drop pos);rw[if_neg (by rintro⟨h1,h2⟩;rcases hb with h | h;rw[h]at h1;cases h1;rw[h]at h2;cases h2)]at hf;rw[<-he]at hf;refine⟨λh0=>?_,λh0 z=>?_⟩
  ·rw[hf,if_pos ?_];rfl;cases hq:s.drop pos with
   | nil=>exact .inl rfl
   | cons c q=>right;rw[<-hq,h0,hq];simp
  ·have hne2:s.drop pos≠[]:=λe=>by rw[e]at h0;exact h0 rfl
   have hdl:(s.drop pos).length=s.length-pos:=lD;refine splitLen_wp (gt:=gt) (z:=z) (res:=res) hm hs hsl hl (by rw[lT];omega) (runB_take _) ?_;by_cases hf2:runB (s.drop pos)<(s.drop pos).length
   ·rw[if_pos (.inr hf2)]at hf;rw[hf,if_neg (show ¬pos+runB (s.drop pos)=s.length by omega)];rfl
   ·rw[if_neg (by rintro (h | h);exact hne2 h;exact hf2 h)]at hf;have hall:=runB_all hf2;rw[hf,if_pos (show pos+runB (s.drop pos)=s.length by omega),List.take_of_length_le (by omega),outS_some (by rw[<-he];exact hall),<-he]
 rw[dT hc];refine goW ?_;refine st_any (by exact rfl) (sx_ixS (k:=a) rfl rfl hget) (goW ?_);rw[show ((b.toNat:Int) == 101)=(b == 101) from u8_eqI b 101];cases h1:(b == 101) with
 | true =>
  have isE:=isE (.inl h1);refine goK ?_
  with_unfolding_all refine expIn_wp (gt:=gt) hm hrun hsl hik ?_
  intro pos hp he;obtain⟨i1,i2⟩:=isE pos hp he;refine⟨λh0=>?_,λh0=>?_⟩
  ·rw[i1 h0];exact⟨_,rfl,Ret.sta (sta_split (zeroP,12))⟩
  ·with_unfolding_all exact i2 h0 _
 | false =>
  refine goW ?_;refine st_any (by exact rfl) (sx_ixS (k:=a) rfl rfl hget) (goW ?_);rw[show ((b.toNat:Int) == 69)=(b == 69) from u8_eqI b 69];cases h2:(b == 69) with
  | true =>
   have isE:=isE (.inr h2);refine goK ?_
   with_unfolding_all refine expIn_wp (gt:=gt) hm hrun hsl hik ?_
   intro pos hp he;obtain⟨i1,i2⟩:=isE pos hp he;refine⟨λh0=>?_,λh0=>?_⟩
   ·rw[i1 h0];exact⟨_,rfl,Ret.sta (sta_split (zeroP,12))⟩
   ·with_unfolding_all exact i2 h0 _
  | false =>
   rw[h1,h2,if_pos ⟨rfl,rfl⟩]at hf;have notE:=notE hf;refine goK ?_
   with_unfolding_all exact notE _
end

theorem cutE_neg {m n:Bool}{w p q w' p' e:List UInt8}(h:cutE m w p q=some (n,w',p',e)):n=m:=by
 unfold cutE at h;split at h
 ·simp only[oI,Prod.mk.injEq]at h;exact h.1.symm
 ·split at h
  ·cases h
  ·split at h
   ·cases h
   ·simp only[oI,Prod.mk.injEq]at h;exact h.1.symm
theorem cutP_neg {m n:Bool}{q w p e:List UInt8}(h:cutP m q=some (n,w,p,e)):n=m:=by
 unfold cutP at h;split at h
 ·cases h
 ·split at h
  ·split at h
   ·cases h
   ·exact cutE_neg h
  ·exact cutE_neg h
theorem split_outS (s:List UInt8):splitB s=outS s (cutB s):=by
 unfold splitB outS;have hn:∀n w p e,cutB s=some (n,w,p,e)->n=hd 45 s:=λn w p e h=>by
  unfold cutB at h;split at h
  ·rename_i hh;rw[cutP_neg h,hh]
  ·rename_i hh;rw[cutP_neg h];simp only[Bool.not_eq_true]at hh;rw[hh]
 cases hc:cutB s with
 | none=>rfl
 | some q =>
  obtain⟨n,w,p,e⟩:=q;simp only;rw[hn n w p e hc];split
  ·rfl
  ·cases expB e with
   | none=>rfl
   | some x =>
    simp only[finS];obtain⟨h1,h2⟩:=trim_comm [48] (w++p);rw[h1];by_cases hz:trimR [48] (trimL [48] (w++p))=[]
    ·rw[if_pos hz,if_pos hz]
    ·rw[if_neg hz,if_neg hz];have h2:=h2 hz;have t1:=trimR_le [48] (trimL [48] (w++p));rw[h2]
     congr 3
     omega
section
variable {gt:GT}{C:CallT}
set_option maxHeartbeats 8000000 in
theorem splitDot_wp (hm:MonoC C)(hrun:∀(s:List UInt8) (k:Nat),k<=s.length->s.length<4611686018427387904->PF C 146 [.str s,.int .i64 k] (.int .i64 ((k+runB (s.drop k):Nat):Int)))
  {s w:List UInt8} {n:Bool} {a:Nat} {z:Env} {res:Parts3×Int} (hs:s≠[]) (hsl:s.length<4611686018427387904) (ha:a<=s.length) (hl:w.length<=a)
  (hf:res=outS s (if hd 46 (s.drop a)=true then (if runB (s.drop (a+1))=0 then none else cutE n w ((s.drop (a+1)).take (runB (s.drop (a+1)))) (s.drop (a+1+runB (s.drop (a+1))))) else cutE n w [] (s.drop a))) :
  wpD gt C F106.body.rt.rt.rt.rt.rt.rt.rt ((0,.val (.str s))::(2,.box zP)::(5,.val (.int .i64 a))::(6,.val (.str w))::(7,.val (.str []))::z) St.init (bodyQ gt F106.res (Ret (encSplit res))):=by
 have ret:∀{o:Parts3×Int} {S:St},res=o->Ret (encSplit res) (.ret (encSplit o)) S:=λh=>by rw[h];exact Ret.sta (sta_split _)
 conv=>whnf
 refine goW ?_;by_cases hc:(a:Int)<(s.length:Nat)
 case neg =>
  rw[hd_drop_end (by omega),if_neg (by simp)]at hf;have fin:=λ(z:Env)=>splitE_wp (gt:=gt) (z:=z) hm hrun hs hsl ha (by simp only[lN];omega) hf;rw[dF hc];refine goK ?_
  with_unfolding_all exact fin []
 have hik:a<s.length:=by omega
 have hget:s[a]? = some s[a]:=gE hik;rw[hd_drop hik]at hf;generalize s[a]=b at hf hget;rw[dT hc];refine goW ?_;refine st_any (by exact rfl) (sx_ixS (k:=a) rfl rfl hget) (goW ?_);rw[show ((b.toNat:Int) == 46)=(b == 46) from u8_eqI b 46];cases h46:(b == 46) with
 | false =>
  rw[h46,if_neg (by simp)]at hf;have fin:=λ(z:Env)=>splitE_wp (gt:=gt) (z:=z) hm hrun hs hsl ha (by simp only[lN];omega) hf;refine goK ?_
  with_unfolding_all exact fin []
 | true =>
  rw[h46,if_pos rfl]at hf;have hrun:=hrun;have hr1:=hrun s (a+1) (by omega) hsl;have hle:=runB_le (s.drop (a+1));rw[lD]at hle;generalize hr:runB (s.drop (a+1))=r at hr1 hf hle;refine goW ?_;rw[wrNat (by omega)];refine call_pf hm (by rfl) hr1 (goW ?_);rw[wrNat (by omega)];by_cases hz:r=0
  ·rw[eqI_true (show ((a+1+r:Nat):Int)=((a+1:Nat):Int) by omega)];rw[if_pos hz]at hf;refine goW ?_;exact⟨_,rfl,ret (o:=(zeroP,12)) hf⟩
  rw[eqI_false (show ¬((a+1+r:Nat):Int)=((a+1:Nat):Int) by omega)];rw[if_neg hz]at hf;have fin:=λ(z:Env)=>splitE_wp (gt:=gt) (z:=z) hm hrun hs hsl (by omega) (by rw[lT,lD];omega) hf;refine goW ?_;rw[wrNat (by omega)];refine step_ruleO (sx_slLH (l:=a+1) (h:=a+1+r) rfl rfl rfl (by omega) (by omega)) ?_;rw[show ((s.drop (a+1)).take (a+1+r-(a+1)))=(s.drop (a+1)).take r by rw[Nat.add_sub_cancel_left]];refine goK ?_
  with_unfolding_all exact fin []
end

section
variable {gt:GT}{C:CallT}
set_option maxHeartbeats 8000000 in
theorem splitRun_wp (hm:MonoC C)(hrun:∀(s:List UInt8) (k:Nat),k<=s.length->s.length<4611686018427387904->PF C 146 [.str s,.int .i64 k] (.int .i64 ((k+runB (s.drop k):Nat):Int)))
  {s:List UInt8} {n:Bool} {i:Nat} {z:Env} {res:Parts3×Int} (hsl:s.length<4611686018427387904) (hi:i<=s.length)
  (hf:res=outS s (cutP n (s.drop i))) :
  wpD gt C F106.body.rt.rt.rt ((0,.val (.str s))::(2,.box zP)::(4,.val (.int .i64 i))::z) St.init (bodyQ gt F106.res (Ret (encSplit res))):=by
 have ret:∀{o:Parts3×Int} {S:St},res=o->Ret (encSplit res) (.ret (encSplit o)) S:=λh=>by rw[h];exact Ret.sta (sta_split _)
 have hr1:=hrun s i hi hsl;have hle:=runB_le (s.drop i);rw[lD]at hle;unfold cutP at hf;rw[List.drop_drop,List.drop_drop,List.drop_drop]at hf;generalize hr:runB (s.drop i)=r at hr1 hf hle
 conv=>whnf
 refine goW ?_;refine call_pf hm (by rfl) hr1 (goW ?_);by_cases hz:r=0
 ·rw[eqI_true (show ((i+r:Nat):Int)=i by omega)];rw[if_pos (.inl hz)]at hf;refine goW ?_;exact⟨_,rfl,ret (o:=(zeroP,12)) hf⟩
 rw[eqI_false (show ¬((i+r:Nat):Int)=i by omega)];have hik:i<s.length:=by omega
 have hs:s≠[]:=λe=>by rw[e]at hik;simp at hik
 have hget:s[i]? = some s[i]:=gE hik;rw[hd_drop hik]at hf;generalize s[i]=b at hf hget;refine goW ?_;refine st_any (by exact rfl) (sx_ixS (k:=i) rfl rfl hget) (goW ?_);rw[show ((b.toNat:Int) == 48)=(b == 48) from u8_eqI b 48];have dot:¬(1<r/\(b == 48)=true)->∀z,wpD gt C F106.body.rt.rt.rt.rt.rt.rt.rt ((0,.val (.str s))::(2,.box zP)::(5,.val (.int .i64 ((i+r:Nat):Int)))::(6,.val (.str ((s.drop i).take r)))::(7,.val (.str []))::z) St.init (bodyQ gt F106.res (Ret (encSplit res))):=λh z=>by
  rw[if_neg (by rintro (h' | h');exact hz h';exact h h')]at hf;refine splitDot_wp (n:=n) hm hrun hs hsl (by omega) (by rw[lT];omega) ?_;rw[hf];simp only[Nat.add_assoc]
 cases h48:(b == 48) with
 | true =>
  refine goW ?_;rw[wrNat (by omega)];by_cases h1:((i+r:Nat):Int) > ((i+1:Nat):Int)
  ·rw[dT h1];rw[if_pos (.inr ⟨by omega,h48⟩)]at hf;refine goW ?_;exact⟨_,rfl,ret (o:=(zeroP,12)) hf⟩
  ·rw[dF h1];have dot:=dot (λh=>by omega);refine goW ?_;refine step_ruleO (sx_slLH (l:=i) (h:=i+r) rfl rfl rfl (by omega) (by omega)) ?_;rw[show ((s.drop i).take (i+r-i))=(s.drop i).take r by rw[Nat.add_sub_cancel_left]];refine goK ?_
   with_unfolding_all exact dot []
 | false =>
  have dot:=dot (λh=>by rw[h48]at h;cases h.2);refine goW ?_;refine step_ruleO (sx_slLH (l:=i) (h:=i+r) rfl rfl rfl (by omega) (by omega)) ?_;rw[show ((s.drop i).take (i+r-i))=(s.drop i).take r by rw[Nat.add_sub_cancel_left]];refine goK ?_
  with_unfolding_all exact dot []
set_option maxHeartbeats 8000000 in
theorem splitR_wp (hm:MonoC C)(hrun:∀(s:List UInt8) (k:Nat),k<=s.length->s.length<4611686018427387904->PF C 146 [.str s,.int .i64 k] (.int .i64 ((k+runB (s.drop k):Nat):Int)))
  {s:List UInt8} (hsl:s.length<4611686018427387904):wpF gt C F106 [.str s] St.init (Ret (encSplit (splitB s))):=by
 have hf:=split_outS s;unfold cutB at hf;generalize splitB s=res at hf ⊢;refine⟨rfl,?_⟩;refine goW ?_;cases s with
 | nil =>
  have hf:res=outS [] (cutP false (([]:List UInt8).drop 0)):=hf;have fin:=λ(z:Env)=>splitRun_wp (gt:=gt) (z:=z) (i:=0) hm hrun hsl (Nat.zero_le _) hf;rw[dF (show ¬(0:Int)<((([]:List UInt8).length:Nat):Int) by simp)];refine goK ?_
  with_unfolding_all exact fin []
 | cons b r =>
  have hget:(b::r)[0]? = some b:=rfl;have h45:hd 45 (b::r)=(b == 45):=rfl;rw[h45]at hf;have hlen:(b::r).length=r.length+1:=rfl;generalize hq:b::r=s at hget hf hsl hlen ⊢;rw[dT (show (0:Int)<((s.length:Nat):Int) by omega)];refine goW ?_;refine st_any (by exact rfl) (sx_ixS (k:=0) rfl rfl hget) (goW ?_);rw[show ((b.toNat:Int) == 45)=(b == 45) from u8_eqI b 45];cases hb:(b == 45) with
  | true =>
   rw[hb,if_pos rfl]at hf;have fin:=λ(z:Env)=>splitRun_wp (gt:=gt) (z:=z) (i:=1) hm hrun hsl (by omega) hf;refine goK ?_
   with_unfolding_all exact fin []
  | false =>
   rw[hb,if_neg (by simp)]at hf;have fin:=λ(z:Env)=>splitRun_wp (gt:=gt) (z:=z) (i:=0) hm hrun hsl (by omega) hf;refine goK ?_
   with_unfolding_all exact fin []
end

section
variable {gt:GT}{C:CallT}
abbrev E_jn (neg:Bool)(d:List UInt8)(e:Int)(i:Int):Env:=[(1,.box [.bool neg,.str d,.int .i64 e]),(4,.val (.int .i64 d.length)),(5,.val (.int .i64 i))]
set_option maxHeartbeats 8000000 in
theorem joinEnd_wp (hm:MonoC C)(hit:∀e:Int,-999999<=e->e<=999999->PF C 148 [.int .i64 e] (.str (itoaB e)))
  {neg:Bool} {d:List UInt8} {e:Int} {z:Env} {res:List UInt8×Int} (hl:d.length<=1000) (h1:-999999<=e) (h2:e<=999999)
  (hf:res=if 1000<((if neg=true then [45]++d else d)++(if e=0 then [] else [101]++itoaB e)).length then ([],2)
  else ((if neg=true then [45]++d else d)++(if e=0 then [] else [101]++itoaB e),0)) :
  wpD gt C F107.body.rt.rt.rt.rt.rt.rt ((1,.box [.bool neg,.str d,.int .i64 e])::z) St.init (bodyQ gt F107.res (Ret (encJoin res))):=by
 have ret:∀{o:List UInt8×Int} {S:St},res=o->Ret (encJoin res) (.ret (encJoin o)) S:=λh=>by rw[h];exact Ret.sta (sta_join _)
 have hil:=itoaB_len h1 h2;have hit:=hit e h1 h2
 conv=>whnf
 refine goW ?_;cases neg with
 | true =>
  rw[if_pos rfl]at hf;refine goW ?_;refine step_ruleO (st_addS rfl rfl (by simp only[lC,lN];omega)) ?_;have hl2:([45]++d).length=d.length+1:=by simp
  generalize ([45]:List UInt8)++d=x at hf hl2 ⊢;refine goW ?_;by_cases z5:e=0
  ·rw[neI_false z5];rw[if_pos z5,List.append_nil]at hf;refine goW ?_;by_cases z6:(x.length:Int) > 1000
   ·rw[dT z6];refine goW ?_;exact⟨_,rfl,ret (o:=([],2)) (by rw[hf,if_pos (by omega)])⟩
   rw[dF z6];refine goW ?_;exact⟨_,rfl,ret (o:=(x,0)) (by rw[hf,if_neg (by omega)])⟩
  rw[neI_true z5];rw[if_neg z5,<-aA]at hf;refine goW ?_;refine step_ruleO (st_addS rfl rfl (by simp only[lC,lN];omega)) ?_;have hl3:(x++[101]).length=x.length+1:=by simp
  generalize x++([101]:List UInt8)=y at hf hl3 ⊢;refine goW ?_;refine call_pf hm (by rfl) hit (goW ?_);refine step_ruleO (st_addS rfl rfl (by omega)) ?_;generalize y++itoaB e=v at hf ⊢;refine goW ?_;by_cases z6:(v.length:Int) > 1000
  ·rw[dT z6];refine goW ?_;exact⟨_,rfl,ret (o:=([],2)) (by rw[hf,if_pos (by omega)])⟩
  rw[dF z6];refine goW ?_;exact⟨_,rfl,ret (o:=(v,0)) (by rw[hf,if_neg (by omega)])⟩
 | false =>
  simp only[Bool.false_eq_true,if_false]at hf;refine goW ?_;by_cases z5:e=0
  ·rw[neI_false z5];rw[if_pos z5,List.append_nil]at hf;refine goW ?_;by_cases z6:(d.length:Int) > 1000
   ·rw[dT z6];refine goW ?_;exact⟨_,rfl,ret (o:=([],2)) (by rw[hf,if_pos (by omega)])⟩
   rw[dF z6];refine goW ?_;exact⟨_,rfl,ret (o:=(d,0)) (by rw[hf,if_neg (by omega)])⟩
  rw[neI_true z5];rw[if_neg z5,<-aA]at hf;refine goW ?_;refine step_ruleO (st_addS rfl rfl (by simp only[lC,lN];omega)) ?_;have hl3:(d++[101]).length=d.length+1:=by simp
  generalize d++([101]:List UInt8)=y at hf hl3 ⊢;refine goW ?_;refine call_pf hm (by rfl) hit (goW ?_);refine step_ruleO (st_addS rfl rfl (by omega)) ?_;generalize y++itoaB e=v at hf ⊢;refine goW ?_;by_cases z6:(v.length:Int) > 1000
  ·rw[dT z6];refine goW ?_;exact⟨_,rfl,ret (o:=([],2)) (by rw[hf,if_pos (by omega)])⟩
  rw[dF z6];refine goW ?_;exact⟨_,rfl,ret (o:=(v,0)) (by rw[hf,if_neg (by omega)])⟩
set_option maxHeartbeats 8000000 in
theorem joinR_wp (hm:MonoC C)(hdg:∀b:UInt8,PF C 147 [.int .u8 b.toNat] (.bool (dig b)))(hit:∀e:Int,-999999<=e->e<=999999->PF C 148 [.int .i64 e] (.str (itoaB e)))
  {p:Parts3} (hl:p.2.1.length<=1000):wpF gt C F107 [encP p] St.init (Ret (encJoin (joinB p))):=by
 obtain⟨neg,d,e⟩:=p;simp only at hl;have ret:∀{o:List UInt8×Int} {S:St},joinB (neg,d,e)=o->Ret (encJoin (joinB (neg,d,e))) (.ret (encJoin o)) S:=λh=>by rw[h];exact Ret.sta (sta_join _)
 have hf:joinB (neg,d,e)=if runB d<d.length\/(hd 48 d=true\/tl 48 d=true)\/(d=[]/\(e≠0\/neg=true)) then ([],1)
  else if e < -999999\/999999<e then ([],5)
  else if d=[] then ([48],0)
  else if 1000<((if neg=true then [45]++d else d)++(if e=0 then [] else [101]++itoaB e)).length then ([],2)
  else ((if neg=true then [45]++d else d)++(if e=0 then [] else [101]++itoaB e),0):=rfl
 generalize joinB (neg,d,e)=res at ret hf ⊢;refine⟨rfl,?_⟩;refine goW ?_;refine loop_rule hm (α:=Nat) (λi env S'=>i<=d.length/\env=E_jn neg d e i/\S'=St.init/\runB d=i+runB (d.drop i)) (λi=>d.length-i) ?_ (a:=0) ⟨Nat.zero_le _,rfl,rfl,by simp⟩;rintro i env S' ⟨hi,rfl,rfl,hp⟩;refine goW ?_;by_cases hc:(i:Int)<(d.length:Nat)
 ·rw[dT hc];refine goW ?_;have hik:i<d.length:=by omega
  refine step_ruleO (sx_ixS (k:=i) rfl rfl (gE hik)) (goW ?_);refine call_pf hm (by rfl) (hdg d[i]) ?_;rw[dC hik]at hp;simp only[runB]at hp;cases hdi:dig d[i] with
  | false =>
   rw[hdi]at hp;refine goW ?_;exact⟨_,rfl,ret (o:=([],1)) (by rw[hf,if_pos (.inl (by simp only[Bool.false_eq_true,if_false]at hp;omega))])⟩
  | true =>
   rw[hdi,if_pos rfl]at hp;refine goW ?_;refine⟨i+1,⟨by omega,?_,rfl,by rw[hp];omega⟩,by omega⟩;rw[wrNat (by omega)]
 rw[dF hc];rw[List.drop_eq_nil_of_le (by omega)]at hp;have z1:¬runB d<d.length:=by rw[hp];simp only[runB];omega
 clear hp hc
 refine goW ?_;cases d with
 | nil =>
  rw[eqI_true (show ((([]:List UInt8).length:Nat):Int)=0 from rfl)];refine goW ?_;by_cases y1:e=0
  ·rw[neI_false y1];refine goW ?_;cases neg with
   | true =>
    refine goW ?_;exact⟨_,rfl,ret (o:=([],1)) (by rw[hf,if_pos (.inr (.inr ⟨rfl,.inr rfl⟩))])⟩
   | false =>
    rw[if_neg (by rintro (h | (h | h) | ⟨_,h | h⟩);exact z1 h;cases h;cases h;exact h y1;cases h)]at hf;subst y1;refine goW ?_;exact⟨_,rfl,ret (o:=([48],0)) (by rw[hf,if_neg (by omega),if_pos rfl])⟩
  ·rw[neI_true y1];refine goW ?_;exact⟨_,rfl,ret (o:=([],1)) (by rw[hf,if_pos (.inr (.inr ⟨rfl,.inl y1⟩))])⟩
 | cons b r =>
  have hlen:(b::r).length=r.length+1:=rfl;generalize hd0:b::r=d at ret hf hl z1 hlen ⊢;have hb0:d[0]? = some b:=by rw[<-hd0];rfl
  have hne:d≠[]:=by rw[<-hd0];simp
  obtain⟨lb,hlb⟩:∃lb,d[d.length-1]? = some lb:=⟨_,gE (by omega)⟩
  rw[eqI_false (show ¬((d.length:Nat):Int)=0 by omega)];refine goW ?_;rw[dT (show ((d.length:Nat):Int) > 0 by omega)];refine goW ?_;refine st_any (by exact rfl) (sx_ixS (k:=0) rfl rfl hb0) (goW ?_);rw[show ((b.toNat:Int) == 48)=(b == 48) from u8_eqI b 48,<-hd_head (c:=48) hb0];cases y1:hd 48 d with
  | true =>
   refine goW ?_;exact⟨_,rfl,ret (o:=([],1)) (by rw[hf,if_pos (.inr (.inl (.inl y1)))])⟩
  | false =>
   refine goW ?_;rw[show wr .i64 ((d.length:Int)-1)=((d.length-1:Nat):Int) by rw[wr64 (by omega) (by omega)];omega];refine st_any (by exact rfl) (sx_ixS (k:=d.length-1) rfl rfl hlb) (goW ?_);rw[show ((lb.toNat:Int) == 48)=(lb == 48) from u8_eqI lb 48,<-tl_last (c:=48) hlb (by omega)];cases y2:tl 48 d with
   | true =>
    refine goW ?_;exact⟨_,rfl,ret (o:=([],1)) (by rw[hf,if_pos (.inr (.inl (.inr y2)))])⟩
   | false =>
    rw[if_neg (by rintro (h | (h | h) | ⟨h,_⟩);exact z1 h;rw[y1]at h;cases h;rw[y2]at h;cases h;exact hne h)]at hf;refine goW ?_;by_cases x2:e > 999999
    ·rw[dT x2];refine goW ?_;exact⟨_,rfl,ret (o:=([],5)) (by rw[hf,if_pos (.inr x2)])⟩
    rw[dF x2];refine goW ?_;by_cases x1:e < -999999
    ·rw[dT x1];refine goW ?_;exact⟨_,rfl,ret (o:=([],5)) (by rw[hf,if_pos (.inl x1)])⟩
    rw[dF x1];rw[if_neg (by omega),if_neg hne]at hf;refine goW ?_;rw[eqI_false (show ¬((d.length:Nat):Int)=0 by omega)];have fin:=λ(z:Env)=>joinEnd_wp (gt:=gt) (z:=z) hm hit hl (by omega) (by omega) hf;refine goK ?_
    with_unfolding_all exact fin []
set_option maxHeartbeats 4000000 in
theorem normalR_wp (hm:MonoC C)(hsplit:∀s:List UInt8,s.length<4611686018427387904->PF C 106 [.str s] (encSplit (splitB s)))(hjoin:∀p:Parts3,p.2.1.length<=1000->PF C 107 [encP p] (encJoin (joinB p)))
  {s:List UInt8} (hl:s.length<4611686018427387904):wpF gt C F61 [.str s] St.init (Ret (encJoin (normB s))):=by
 have hsplit:=hsplit s hl;have hlen:=splitB_len (s:=s);unfold normB;generalize splitB s=q at hsplit hlen ⊢;obtain⟨⟨neg,d,e⟩,er⟩:=q;simp only at hlen ⊢;refine⟨rfl,?_⟩;refine goW ?_;refine call_pf hm (by rfl) hsplit (goW ?_);by_cases z:er=0
 ·rw[neI_false z,if_pos z];refine goW ?_;have hj:=hjoin (neg,d,e) (hlen z);refine call_pf hm (by rfl) hj ?_;generalize joinB (neg,d,e)=jr;refine goW ?_;exact⟨_,rfl,Ret.sta (sta_join _)⟩
 ·rw[neI_true z,if_neg z];refine goW ?_;exact⟨_,rfl,Ret.sta (sta_join ([],er))⟩
end

def digL (n:Nat)(t:List UInt8):Int:=if t.length=n/\t.all dig=true then valB 0 t else -1
def digI (s:List UInt8)(a n:Nat):Int:=digL n ((s.drop a).take n)
theorem digI_two (s:List UInt8)(a:Nat):digI s a 2=twoB ((s.drop a).take 2):=by
 unfold digI;generalize (s.drop a).take 2=t
 match t with
 | []=>rfl
 | [x]=>rfl
 | [x,y] =>
  unfold digL;simp only[twoB,lC,lN,List.all_cons,List.all_nil,Bool.and_true,bA,true_and];by_cases h:dig x=true/\dig y=true
  ·have h1:=dig_iff.1 h.1;have h2:=dig_iff.1 h.2;refine(if_pos h).trans (Eq.trans ?_ (if_pos h).symm);show ((valB 0 [x,y]:Nat):Int)=_;have e:valB 0 [x,y]=(0*10+(x.toNat-48))*10+(y.toNat-48):=rfl;rw[e];omega
  ·rw[if_neg h,if_neg h]
 | _::_::_::r=>unfold digL;rw[if_neg (by rintro⟨h,_⟩;simp only[lC]at h;omega)];rfl
theorem valB_nil (a:Nat):valB a []=a:=rfl
theorem valB_cons (a:Nat)(b:UInt8)(r:List UInt8):valB a (b::r)=valB (a*10+(b.toNat-48)) r:=by
 have h:valB a (b::r)=valB (a*10+(b.toNat-48)) r:=Eq.refl _;exact h
theorem valB_snoc (b:UInt8)(l:List UInt8):∀(a:Nat),valB a (l++[b])=valB a l*10+(b.toNat-48):=by
 induction l with
 | nil=>intro a;rw[List.nil_append,valB_cons,valB_nil,valB_nil]
 | cons c r ih=>intro a;rw[List.cons_append,valB_cons,valB_cons];exact ih _
section
variable {gt:GT}{C:CallT}
abbrev E_dgs (s:List UInt8)(a n:Nat)(v:Nat)(i:Nat):Env:=[(0,.val (.str s)),(1,.val (.int .i64 a)),(2,.val (.int .i64 n)),(7,.val (.int .i64 v)),(8,.val (.int .i64 i))]
set_option maxHeartbeats 4000000 in
theorem digs_wp (hm:MonoC C){s:List UInt8}{a n:Nat}(ha:a<4611686018427387904)(hn:n<=9)(hl:s.length<4611686018427387904):wpF gt C F111 [.str s,.int .i64 a,.int .i64 n] St.init (Ret (.int .i64 (digI s a n))):=by
 have ret:∀{z:Int} {S:St},digI s a n=z->Ret (.int .i64 (digI s a n)) (.ret (.int .i64 z)) S:=λh=>by rw[h];exact Ret.sta trivial
 refine⟨rfl,?_⟩;refine goW ?_;refine loop_rule hm (α:=Nat) (λj env S'=>j<=n/\a+j<=s.length+(if j=0 then a else 0)/\((s.drop a).take j).all dig=true/\env=E_dgs s a n (valB 0 ((s.drop a).take j)) (a+j)/\S'=St.init) (λj=>n-j) ?_ (a:=0) ⟨Nat.zero_le _,by simp,by simp,rfl,rfl⟩;rintro j env S' ⟨hj,hlen,hall,rfl,rfl⟩;have hlt:=valB_lt _ 0 hall;have hj9:10 ^ ((s.drop a).take j).length<=10 ^ 9:=Nat.pow_le_pow_right (by decide) (by rw[lT];omega);have h9:(10:Nat) ^ 9=1000000000:=by decide
 have hv:valB 0 ((s.drop a).take j)<1000000000:=by omega
 clear hlt hj9 h9
 refine goW ?_;rw[wr64 (n:=(a:Int)+(n:Int)) (by omega) (by omega)];by_cases hc:((a+j:Nat):Int)<(a:Int)+(n:Int)
 ·rw[dT hc];have hjn:j<n:=by omega
  have bad:¬(∃h:a+j<s.length,dig s[a+j]=true)->digI s a n=-1:=λh=>by
   unfold digI digL;rw[if_neg];rintro⟨h1,h2⟩;rw[lT,lD]at h1;have hal:a+j<s.length:=by omega
   refine h ⟨hal,List.all_eq_true.1 h2 _ ?_⟩;refine List.mem_iff_getElem.2 ⟨j,by rw[lT,lD];omega,?_⟩;rw[List.getElem_take,List.getElem_drop]
  refine goW ?_;by_cases h1:((a+j:Nat):Int) ≥ (s.length:Nat)
  ·rw[dT h1];refine goW ?_;exact⟨_,rfl,ret (bad λ⟨h,_⟩=>by omega)⟩
  rw[dF h1];have hik:a+j<s.length:=by omega
  have hget:s[a+j]? = some s[a+j]:=gE hik;have htk:(s.drop a).take (j+1)=(s.drop a).take j++[s[a+j]]:=by
   rw[tS (by rw[lD];omega),List.getElem_drop]
  have bad:dig s[a+j]=false->digI s a n=-1:=λh=>bad λ⟨_,h'⟩=>by rw[h]at h';cases h'
  generalize s[a+j]=b at hget htk bad;refine goW ?_;refine st_any (by exact rfl) (sx_ixS (k:=a+j) rfl rfl hget) (goW ?_);by_cases h2:(b.toNat:Int)<48
  ·rw[dT h2];refine goW ?_;exact⟨_,rfl,ret (bad (by unfold dig;rw[dF (show ¬48<=b.toNat by omega),Bool.false_and]))⟩
  rw[dF h2];refine goW ?_;refine st_any (by exact rfl) (sx_ixS (k:=a+j) rfl rfl hget) (goW ?_);by_cases h3:(b.toNat:Int) > 57
  ·rw[dT h3];refine goW ?_;exact⟨_,rfl,ret (bad (by unfold dig;rw[dF (show ¬b.toNat<=57 by omega),Bool.and_false]))⟩
  rw[dF h3];have hdb:dig b=true:=dig_iff.2 ⟨by omega,by omega⟩;refine goW ?_;refine step_ruleO (sx_ixS (k:=a+j) rfl rfl hget) (goW ?_);refine⟨j+1,⟨by omega,by rw[if_neg (by omega)];omega,by rw[htk,List.all_append,hall];simp[hdb],?_,rfl⟩,by omega⟩;simp only[E_dgs];rw[htk,valB_snoc,wrNat (by omega),wr8 (n:=(b.toNat:Int)-48) (by omega) (by omega),wr64 (n:=(b.toNat:Int)-48) (by omega) (by omega)];generalize valB 0 ((s.drop a).take j)=v at hv ⊢;rw[wr64 (n:=(v:Int)*10) (by omega) (by omega),wr64 (n:=(v:Int)*10+((b.toNat:Int)-48)) (by omega) (by omega),
   show (v:Int)*10+((b.toNat:Int)-48)=((v*10+(b.toNat-48):Nat):Int) by omega]
  try rfl
 ·rw[dF hc];have hjn:j=n:=by omega
  subst hjn;refine goW ?_;have hlen':((s.drop a).take j).length=j:=by
   rw[lT,lD];by_cases h0:j=0
   ·subst h0;simp
   ·rw[if_neg h0]at hlen;omega
  exact⟨_,rfl,ret (if_pos ⟨hlen',hall⟩)⟩
end

theorem ten {s:List UInt8}(h:s.length=10):∃b0 b1 b2 b3 b4 b5 b6 b7 b8 b9,s=[b0,b1,b2,b3,b4,b5,b6,b7,b8,b9]:=by
 match s,h with
 | [b0,b1,b2,b3,b4,b5,b6,b7,b8,b9],_=>exact⟨b0,b1,b2,b3,b4,b5,b6,b7,b8,b9,rfl⟩
theorem twoB_ok (a b:UInt8):(0<=twoB [a,b]↔dig a=true/\dig b=true)/\(dig a=true/\dig b=true->twoB [a,b]=((a.toNat:Int)-48)*10+((b.toNat:Int)-48)):=by
 simp only[twoB];by_cases h:dig a=true/\dig b=true
 ·rw[if_pos h];have h1:=dig_iff.1 h.1;have h2:=dig_iff.1 h.2;exact⟨⟨λ_=>h,λ_=>by omega⟩,λ_=>rfl⟩
 ·rw[if_neg h];exact⟨⟨λh'=>by omega,λh'=>absurd h' h⟩,λh'=>absurd h' h⟩
theorem dig4 (a b c d:UInt8):digL 4 [a,b,c,d]=if 0<=twoB [a,b]/\0<=twoB [c,d] then twoB [a,b]*100+twoB [c,d] else -1:=by
 unfold digL;have e:([a,b,c,d].all dig=true)↔(dig a=true/\dig b=true)/\(dig c=true/\dig d=true):=by
  simp only[List.all_cons,List.all_nil,Bool.and_true,bA,and_assoc]
 obtain⟨p1,p2⟩:=twoB_ok a b;obtain⟨q1,q2⟩:=twoB_ok c d;by_cases h:(dig a=true/\dig b=true)/\(dig c=true/\dig d=true)
 ·rw[if_pos ⟨rfl,e.2 h⟩,if_pos ⟨p1.2 h.1,q1.2 h.2⟩,p2 h.1,q2 h.2];have h1:=dig_iff.1 h.1.1;have h2:=dig_iff.1 h.1.2;have h3:=dig_iff.1 h.2.1;have h4:=dig_iff.1 h.2.2;rw[valB_cons,valB_cons,valB_cons,valB_cons,valB_nil];omega
 ·rw[if_neg λx=>h (e.1 x.2),if_neg λx=>h ⟨p1.1 x.1,q1.1 x.2⟩]
theorem dateB_10 (b0 b1 b2 b3 b4 b5 b6 b7 b8 b9:UInt8):dateB [b0,b1,b2,b3,b4,b5,b6,b7,b8,b9] =
  ((b4 == 45) && ((b7 == 45) && (decide (0<=digI [b0,b1,b2,b3,b4,b5,b6,b7,b8,b9] 0 4) && (decide (1<=digI [b0,b1,b2,b3,b4,b5,b6,b7,b8,b9] 5 2) && (decide (digI [b0,b1,b2,b3,b4,b5,b6,b7,b8,b9] 5 2<=12) && (decide (1<=digI [b0,b1,b2,b3,b4,b5,b6,b7,b8,b9] 8 2) &&
   decide (digI [b0,b1,b2,b3,b4,b5,b6,b7,b8,b9] 8 2<=daysB (digI [b0,b1,b2,b3,b4,b5,b6,b7,b8,b9] 0 4) (digI [b0,b1,b2,b3,b4,b5,b6,b7,b8,b9] 5 2)))))))):=by
 have e1:digI [b0,b1,b2,b3,b4,b5,b6,b7,b8,b9] 0 4=if 0<=twoB [b0,b1]/\0<=twoB [b2,b3] then twoB [b0,b1]*100+twoB [b2,b3] else -1:=dig4 b0 b1 b2 b3
 have e2:digI [b0,b1,b2,b3,b4,b5,b6,b7,b8,b9] 5 2=twoB [b5,b6]:=digI_two _ 5;have e3:digI [b0,b1,b2,b3,b4,b5,b6,b7,b8,b9] 8 2=twoB [b8,b9]:=digI_two _ 8;have e4:dateB [b0,b1,b2,b3,b4,b5,b6,b7,b8,b9]=((b4 == 45) && ((b7 == 45) && (decide (0<=twoB [b0,b1]) && (decide (0<=twoB [b2,b3]) && ((decide (twoB [b5,b6] ≥ 1) && decide (twoB [b5,b6]<=12)) && (decide (twoB [b8,b9] ≥ 1) && decide (twoB [b8,b9]<=daysB (twoB [b0,b1]*100+twoB [b2,b3]) (twoB [b5,b6])))))))):=rfl;rw[e1,e2,e3,e4];generalize twoB [b0,b1]=y1;generalize twoB [b2,b3]=y2;generalize twoB [b5,b6]=m;generalize twoB [b8,b9]=d;by_cases h1:0<=y1
 ·by_cases h2:0<=y2
  ·rw[if_pos ⟨h1,h2⟩,dT h1,dT h2,dT (show 0<=y1*100+y2 by omega)];simp only[Bool.true_and,Bool.and_assoc,ge_iff_le]
  ·rw[if_neg λh=>h2 h.2,dF h2,dF (show ¬(0:Int)<=-1 by omega)];simp only[Bool.false_and,Bool.and_false]
 ·rw[if_neg λh=>h1 h.1,dF h1,dF (show ¬(0:Int)<=-1 by omega)];simp only[Bool.false_and,Bool.and_false]
section
variable {gt:GT}{C:CallT}
set_option maxHeartbeats 8000000 in
theorem dateEnd_wp (hm:MonoC C){y m d:Int}{z:Env}{res:Bool}(hf:res=(decide (0<=y) && (decide (1<=m) && (decide (m<=12) && (decide (1<=d) && decide (d<=daysB y m)))))) :
  wpD gt C F109.body.rt.rt.rt.rt.rt ((3,.val (.int .i64 y))::(4,.val (.int .i64 m))::(5,.val (.int .i64 d))::z) St.init (bodyQ gt F109.res (Ret (.bool res))):=by
 have ret:∀{o:Bool} {S:St},res=o->Ret (.bool res) (.ret (.bool o)) S:=λh=>by rw[h];exact Ret.sta trivial
 conv=>whnf
 refine goW ?_;by_cases y0:y<0
 ·rw[dT y0];refine goW ?_;exact⟨_,rfl,ret (by rw[hf,dF (by omega)];rfl)⟩
 rw[dF y0];rw[dT (show 0<=y by omega),Bool.true_and]at hf;refine goW ?_;by_cases m0:m<1
 ·rw[dT m0];refine goW ?_;exact⟨_,rfl,ret (by rw[hf,dF (by omega)];rfl)⟩
 rw[dF m0];rw[dT (show 1<=m by omega),Bool.true_and]at hf;refine goW ?_;by_cases m1:m > 12
 ·rw[dT m1];refine goW ?_;exact⟨_,rfl,ret (by rw[hf,dF (by omega)];rfl)⟩
 rw[dF m1];rw[dT (show m<=12 by omega),Bool.true_and]at hf;refine goW ?_;by_cases d0:d<1
 ·rw[dT d0];refine goW ?_;exact⟨_,rfl,ret (by rw[hf,dF (by omega)];rfl)⟩
 rw[dF d0];rw[dT (show 1<=d by omega),Bool.true_and]at hf;unfold daysB at hf;refine goW ?_;by_cases m4:m=4
 ·rw[eqI_true m4];rw[if_pos (.inl m4)]at hf;refine goW ?_;rw[eqI_false (show ¬m=2 by omega)];refine goW ?_;exact⟨_,rfl,ret hf⟩
 rw[eqI_false m4];refine goW ?_;by_cases m6:m=6
 ·rw[eqI_true m6];rw[if_pos (.inr (.inl m6))]at hf;refine goW ?_;rw[eqI_false (show ¬m=2 by omega)];refine goW ?_;exact⟨_,rfl,ret hf⟩
 rw[eqI_false m6];refine goW ?_;by_cases m9:m=9
 ·rw[eqI_true m9];rw[if_pos (.inr (.inr (.inl m9)))]at hf;refine goW ?_;rw[eqI_false (show ¬m=2 by omega)];refine goW ?_;exact⟨_,rfl,ret hf⟩
 rw[eqI_false m9];refine goW ?_;by_cases m11:m=11
 ·rw[eqI_true m11];rw[if_pos (.inr (.inr (.inr m11)))]at hf;refine goW ?_;rw[eqI_false (show ¬m=2 by omega)];refine goW ?_;exact⟨_,rfl,ret hf⟩
 rw[eqI_false m11];rw[if_neg (by omega)]at hf;refine goW ?_;by_cases m2:m=2
 case neg =>
  rw[eqI_false m2];rw[if_neg m2]at hf;refine goW ?_;exact⟨_,rfl,ret hf⟩
 rw[eqI_true m2];rw[if_pos m2]at hf;refine goW ?_;by_cases c4:y.tmod 4=0
 case neg =>
  rw[eqI_false c4];rw[if_neg λh=>c4 h.1]at hf;refine goW ?_;exact⟨_,rfl,ret hf⟩
 rw[eqI_true c4];refine goW ?_;by_cases c100:y.tmod 100=0
 case neg =>
  rw[neI_true c100];rw[if_pos ⟨c4,.inl c100⟩]at hf;refine goW ?_;exact⟨_,rfl,ret hf⟩
 rw[neI_false c100];refine goW ?_;by_cases c400:y.tmod 400=0
 ·rw[eqI_true c400];rw[if_pos ⟨c4,.inr c400⟩]at hf;refine goW ?_;exact⟨_,rfl,ret hf⟩
 ·rw[eqI_false c400];rw[if_neg (by rintro⟨_,h | h⟩;exact h c100;exact c400 h)]at hf;refine goW ?_;exact⟨_,rfl,ret hf⟩
set_option maxHeartbeats 8000000 in
theorem date3_wp (hm:MonoC C)(hdg:∀(s:List UInt8) (a n:Nat),a<4611686018427387904->n<=9->s.length<4611686018427387904->PF C 111 [.str s,.int .i64 a,.int .i64 n] (.int .i64 (digI s a n)))
  {s:List UInt8}:wpF gt C F109 [.str s] St.init (Ret (.bool (dateB s))):=by
 refine⟨rfl,?_⟩;refine goW ?_;by_cases h10:s.length=10
 case neg =>
  rw[neI_true (show ¬((s.length:Nat):Int)=10 by omega)];refine goW ?_;refine⟨_,rfl,?_⟩;rw[show dateB s=false by unfold dateB;rw[dF h10];rfl];exact Ret.sta trivial
 rw[neI_false (show ((s.length:Nat):Int)=10 by omega)];have d1:=hdg s 0 4 (by omega) (by omega) (by omega);have d2:=hdg s 5 2 (by omega) (by omega) (by omega);have d3:=hdg s 8 2 (by omega) (by omega) (by omega);obtain⟨b0,b1,b2,b3,b4,b5,b6,b7,b8,b9,rfl⟩:=ten h10;have hf:=dateB_10 b0 b1 b2 b3 b4 b5 b6 b7 b8 b9;generalize dateB [b0,b1,b2,b3,b4,b5,b6,b7,b8,b9]=res at hf ⊢;have ret:∀{o:Bool} {S:St},res=o->Ret (.bool res) (.ret (.bool o)) S:=λh=>by rw[h];exact Ret.sta trivial
 generalize digI [b0,b1,b2,b3,b4,b5,b6,b7,b8,b9] 0 4=y at hf d1;generalize digI [b0,b1,b2,b3,b4,b5,b6,b7,b8,b9] 5 2=m at hf d2;generalize digI [b0,b1,b2,b3,b4,b5,b6,b7,b8,b9] 8 2=d at hf d3;refine goW ?_;rw[show ((b4.toNat:Int) != 45) = !(b4 == 45) from u8_neI b4 45];cases h4:(b4 == 45) with
 | false =>
  refine goW ?_;exact⟨_,rfl,ret (by rw[hf,h4];rfl)⟩
 | true =>
 rw[h4,Bool.true_and]at hf;refine goW ?_;rw[show ((b7.toNat:Int) != 45) = !(b7 == 45) from u8_neI b7 45];cases h7:(b7 == 45) with
 | false =>
  refine goW ?_;exact⟨_,rfl,ret (by rw[hf,h7];rfl)⟩
 | true =>
 rw[h7,Bool.true_and]at hf;refine goW ?_;refine call_pf hm (by rfl) d1 (goW ?_);refine call_pf hm (by rfl) d2 (goW ?_);refine call_pf hm (by rfl) d3 ?_;have fin:=λz=>dateEnd_wp (gt:=gt) (z:=z) hm hf;refine goK ?_
 with_unfolding_all exact fin []
end

theorem tenD_all:(List.range 256).all (λn=>tenD.contains (UInt8.ofNat n) == dig (UInt8.ofNat n))=true:=by kernel_rfl
theorem tenD_dig (b:UInt8):tenD.contains b=dig b:=by
 have:=List.all_eq_true.1 tenD_all b.toNat (List.mem_range.2 (u8_lt b))
 rwa [UInt8.ofNat_toNat,beq_iff_eq]at this
theorem trimA_nil {cs t:List UInt8}:trimA cs t=[]↔∀x∈t,cs.contains x=true:=by
 unfold trimA;constructor
 ·intro h;rw[(trim_comm cs t).1]at h;cases ht:trimL cs t with
  | nil=>exact dropW_nil.1 ht
  | cons b r =>
   exfalso;rw[ht]at h;have hb:cs.contains b=false:=by
    have:=List.head_dropWhile_not (p:=(cs.contains ·)) (l:=t) (by show trimL cs t≠[];rw[ht];simp);have e:t.dropWhile (cs.contains ·)=b::r:=ht;simp only[e,List.head_cons]at this;exact this
   exact(trimR_head hb).1 h
 ·intro h;rw[trimR_all h];rfl
theorem frac_iff {s:List UInt8}(h1:10<=s.length):decide (0<=digI s 9 (s.length-9))=beqB (trimA tenD (s.drop 9)) []:=by
 have hl:(s.drop 9).length=s.length-9:=lD;unfold digI;rw[List.take_of_length_le (by omega)];generalize s.drop 9=t at hl ⊢;unfold digL;rw[Bool.eq_iff_iff,beqB_iff,trimA_nil,decide_eq_true_eq];have e:(t.all dig=true)↔∀x∈t,tenD.contains x=true:=by
  rw[List.all_eq_true];exact⟨λh x hx=>by rw[tenD_dig];exact h x hx,λh x hx=>by rw[<-tenD_dig];exact h x hx⟩
 rw[<-e];by_cases ha:t.all dig=true
 ·rw[if_pos ⟨hl,ha⟩];generalize valB 0 t=v;exact⟨λ_=>ha,λ_=>by omega⟩
 ·rw[if_neg λh=>ha h.2];exact⟨λh=>by omega,λh=>absurd h ha⟩
section
variable {gt:GT}{C:CallT}
set_option maxHeartbeats 8000000 in
theorem clock3_wp (hm:MonoC C)(hdg:∀(s:List UInt8) (a n:Nat),a<4611686018427387904->n<=9->s.length<4611686018427387904->PF C 111 [.str s,.int .i64 a,.int .i64 n] (.int .i64 (digI s a n)))
  {s:List UInt8} (hsl:s.length<4611686018427387904):wpF gt C F110 [.str s] St.init (Ret (.bool (clockB s))):=by
 have hf:clockB s=(decide (8<=s.length) && (atB s 2 58 && (atB s 5 58 && ((decide (digI s 0 2 ≥ 0) && decide (digI s 0 2<=23)) && ((decide (digI s 3 2 ≥ 0) && decide (digI s 3 2<=59)) && ((decide (digI s 6 2 ≥ 0) && decide (digI s 6 2<=59)) &&
  (decide (s.length=8) || (atB s 8 46 && (decide (1<=(s.drop 9).length) && (decide ((s.drop 9).length<=9) && beqB (trimA tenD (s.drop 9)) [])))))))))):=by
  rw[digI_two,digI_two,digI_two];rfl
 have d1:=hdg s 0 2 (by omega) (by omega) hsl;have d2:=hdg s 3 2 (by omega) (by omega) hsl;have d3:=hdg s 6 2 (by omega) (by omega) hsl;have hd9:(s.drop 9).length=s.length-9:=lD;have hfr:=@frac_iff s;have d4:=λh=>hdg s 9 (s.length-9) (by omega) h hsl;generalize clockB s=res at hf ⊢;have ret:∀{o:Bool} {S:St},res=o->Ret (.bool res) (.ret (.bool o)) S:=λh=>by rw[h];exact Ret.sta trivial
 generalize digI s 0 2=h at hf d1;generalize digI s 3 2=m at hf d2;generalize digI s 6 2=c at hf d3;generalize digI s 9 (s.length-9)=fr at hfr d4;refine⟨rfl,?_⟩;refine goW ?_;by_cases h8:(s.length:Int)<8
 ·rw[dT h8];refine goW ?_;exact⟨_,rfl,ret (by rw[hf,dF (by omega)];rfl)⟩
 rw[dF h8];rw[dT (show 8<=s.length by omega),Bool.true_and]at hf;obtain⟨b2,hb2⟩:∃b,s[2]? = some b:=⟨_,gE (by omega)⟩
 obtain⟨b5,hb5⟩:∃b,s[5]? = some b:=⟨_,gE (by omega)⟩
 rw[atB_get hb2,atB_get hb5]at hf;refine goW ?_;refine st_any (by exact rfl) (sx_ixS (k:=2) rfl rfl hb2) (goW ?_);rw[show ((b2.toNat:Int) != 58) = !(b2 == 58) from u8_neI b2 58];cases h2:(b2 == 58) with
 | false =>
  refine goW ?_;exact⟨_,rfl,ret (by rw[hf,h2];rfl)⟩
 | true =>
 rw[h2,Bool.true_and]at hf;refine goW ?_;refine st_any (by exact rfl) (sx_ixS (k:=5) rfl rfl hb5) (goW ?_);rw[show ((b5.toNat:Int) != 58) = !(b5 == 58) from u8_neI b5 58];cases h5:(b5 == 58) with
 | false =>
  refine goW ?_;exact⟨_,rfl,ret (by rw[hf,h5];rfl)⟩
 | true =>
 rw[h5,Bool.true_and]at hf;refine goW ?_;refine call_pf hm (by rfl) d1 (goW ?_);refine call_pf hm (by rfl) d2 (goW ?_);refine call_pf hm (by rfl) d3 (goW ?_);by_cases q1:h<0
 ·rw[dT q1];refine goW ?_;exact⟨_,rfl,ret (by rw[hf,dF (show ¬h ≥ 0 by omega)];rfl)⟩
 rw[dF q1];rw[dT (show h ≥ 0 by omega),Bool.true_and]at hf;refine goW ?_;by_cases q2:h > 23
 ·rw[dT q2];refine goW ?_;exact⟨_,rfl,ret (by rw[hf,dF (show ¬h<=23 by omega)];rfl)⟩
 rw[dF q2];rw[dT (show h<=23 by omega),Bool.true_and]at hf;refine goW ?_;by_cases q3:m<0
 ·rw[dT q3];refine goW ?_;exact⟨_,rfl,ret (by rw[hf,dF (show ¬m ≥ 0 by omega)];rfl)⟩
 rw[dF q3];rw[dT (show m ≥ 0 by omega),Bool.true_and]at hf;refine goW ?_;by_cases q4:m > 59
 ·rw[dT q4];refine goW ?_;exact⟨_,rfl,ret (by rw[hf,dF (show ¬m<=59 by omega)];rfl)⟩
 rw[dF q4];rw[dT (show m<=59 by omega),Bool.true_and]at hf;refine goW ?_;by_cases q5:c<0
 ·rw[dT q5];refine goW ?_;exact⟨_,rfl,ret (by rw[hf,dF (show ¬c ≥ 0 by omega)];rfl)⟩
 rw[dF q5];rw[dT (show c ≥ 0 by omega),Bool.true_and]at hf;refine goW ?_;by_cases q6:c > 59
 ·rw[dT q6];refine goW ?_;exact⟨_,rfl,ret (by rw[hf,dF (show ¬c<=59 by omega)];rfl)⟩
 rw[dF q6];rw[dT (show c<=59 by omega),Bool.true_and]at hf;refine goW ?_;by_cases q7:s.length=8
 ·rw[eqI_true (show ((s.length:Nat):Int)=8 by omega)];refine goW ?_;exact⟨_,rfl,ret (by rw[hf,dT q7];rfl)⟩
 rw[eqI_false (show ¬((s.length:Nat):Int)=8 by omega)];rw[dF q7,Bool.false_or]at hf;obtain⟨b8,hb8⟩:∃b,s[8]? = some b:=⟨_,gE (by omega)⟩
 rw[atB_get hb8]at hf;refine goW ?_;refine step_ruleO (sx_ixS (k:=8) rfl rfl hb8) (goW ?_);rw[show ((b8.toNat:Int) == 46)=(b8 == 46) from u8_eqI b8 46];cases h46:(b8 == 46) with
 | false =>
  refine goW ?_;exact⟨_,rfl,ret (by rw[hf,h46];rfl)⟩
 | true =>
 rw[h46,Bool.true_and]at hf;refine goW ?_;by_cases q8:(s.length:Int) ≥ 10
 case neg =>
  rw[dF q8];refine goW ?_;exact⟨_,rfl,ret (by rw[hf,dF (by omega)];rfl)⟩
 rw[dT q8];rw[dT (show 1<=(s.drop 9).length by omega),Bool.true_and]at hf;refine goW ?_;by_cases q9:(s.length:Int)<=18
 case neg =>
  rw[dF q9];refine goW ?_;exact⟨_,rfl,ret (by rw[hf,dF (by omega)];rfl)⟩
 rw[dT q9];rw[dT (show (s.drop 9).length<=9 by omega),Bool.true_and,<-hfr (by omega)]at hf;have d4:=d4 (by omega);refine goW ?_;rw[show wr .i64 ((s.length:Int)-9)=((s.length-9:Nat):Int) by rw[wr64 (by omega) (by omega)];omega];refine call_pf hm (by rfl) d4 (goW ?_);exact⟨_,rfl,ret hf⟩
end

def tailR (t:List UInt8):Bool :=
 clockB t || (if atB t (t.length-1) 90=true then clockB (t.take (t.length-1))
 else decide (14<=t.length) && ((atB t (t.length-6) 43 || atB t (t.length-6) 45) && (atB t (t.length-3) 58 &&
  (decide (digI t (t.length-5) 2 ≥ 0) && (decide (digI t (t.length-5) 2<=23) && (decide (digI t (t.length-2) 2 ≥ 0) && (decide (digI t (t.length-2) 2<=59) && clockB (t.take (t.length-6)))))))))
def timeR (s:List UInt8):Bool :=
 dateB s || (clockB s || (decide (19<=s.length) && (atB s 10 84 && (dateB (s.take 10) && tailR (s.drop 11)))))
section
variable {gt:GT}{C:CallT}
set_option maxHeartbeats 8000000 in
theorem timeTail_wp (hm:MonoC C)(hdg:∀(s:List UInt8) (a n:Nat),a<4611686018427387904->n<=9->s.length<4611686018427387904->PF C 111 [.str s,.int .i64 a,.int .i64 n] (.int .i64 (digI s a n)))
  (hck:∀s:List UInt8,s.length<4611686018427387904->PF C 110 [.str s] (.bool (clockB s)))
  {t:List UInt8} {z:Env} (hl:t.length<4611686018427387904) (h8:8<=t.length) :
  wpD gt C F63.body.rt.rt.rt.rt ((3,.val (.str t))::z) St.init (bodyQ gt F63.res (Ret (.bool (tailR t)))):=by
 have hf:tailR t=(clockB t || (if atB t (t.length-1) 90=true then clockB (t.take (t.length-1))
 else decide (14<=t.length) && ((atB t (t.length-6) 43 || atB t (t.length-6) 45) && (atB t (t.length-3) 58 &&
  (decide (digI t (t.length-5) 2 ≥ 0) && (decide (digI t (t.length-5) 2<=23) && (decide (digI t (t.length-2) 2 ≥ 0) && (decide (digI t (t.length-2) 2<=59) && clockB (t.take (t.length-6)))))))))):=rfl
 have d1:=hdg t (t.length-5) 2 (by omega) (by omega) hl;have d2:=hdg t (t.length-2) 2 (by omega) (by omega) hl;have c1:=hck t hl;have c2:=hck (t.take (t.length-1)) (by rw[lT];omega);have c3:=hck (t.take (t.length-6)) (by rw[lT];omega);generalize tailR t=res at hf ⊢;have ret:∀{o:Bool} {S:St},res=o->Ret (.bool res) (.ret (.bool o)) S:=λh=>by rw[h];exact Ret.sta trivial
 generalize digI t (t.length-5) 2=h at hf d1;generalize digI t (t.length-2) 2=m at hf d2;generalize clockB t=k1 at hf c1;generalize clockB (t.take (t.length-1))=k2 at hf c2;generalize clockB (t.take (t.length-6))=k3 at hf c3;obtain⟨bz,hbz⟩:∃b,t[t.length-1]? = some b:=⟨_,gE (by omega)⟩
 obtain⟨b6,hb6⟩:∃b,t[t.length-6]? = some b:=⟨_,gE (by omega)⟩
 obtain⟨b3,hb3⟩:∃b,t[t.length-3]? = some b:=⟨_,gE (by omega)⟩
 rw[atB_get hbz,atB_get hb6,atB_get hb6,atB_get hb3]at hf;have w1:wr .i64 ((t.length:Int)-1)=((t.length-1:Nat):Int):=by rw[wr64 (by omega) (by omega)];omega
 have w6:wr .i64 ((t.length:Int)-6)=((t.length-6:Nat):Int):=by rw[wr64 (by omega) (by omega)];omega
 have w3:wr .i64 ((t.length:Int)-3)=((t.length-3:Nat):Int):=by rw[wr64 (by omega) (by omega)];omega
 have w5:wr .i64 ((t.length:Int)-5)=((t.length-5:Nat):Int):=by rw[wr64 (by omega) (by omega)];omega
 have w2:wr .i64 ((t.length:Int)-2)=((t.length-2:Nat):Int):=by rw[wr64 (by omega) (by omega)];omega
 conv=>whnf
 refine goW ?_;refine call_pf hm (by rfl) c1 ?_;cases k1 with
 | true =>
  refine goW ?_;exact⟨_,rfl,ret (by rw[hf];rfl)⟩
 | false =>
 rw[Bool.false_or]at hf;refine goW ?_;rw[w1];refine step_ruleO (sx_ixS (k:=t.length-1) rfl rfl hbz) (goW ?_);rw[show ((bz.toNat:Int) == 90)=(bz == 90) from u8_eqI bz 90];cases hz:(bz == 90) with
 | true =>
  rw[hz,if_pos rfl]at hf;refine goW ?_;rw[w1];refine step_ruleO (sx_slHiS (h:=t.length-1) rfl rfl (by omega)) (goW ?_);refine call_pf hm (by rfl) c2 (goW ?_);exact⟨_,rfl,ret hf⟩
 | false =>
 rw[hz,if_neg (by simp)]at hf;refine goW ?_;by_cases h14:(t.length:Int)<14
 ·rw[dT h14];refine goW ?_;exact⟨_,rfl,ret (by rw[hf,dF (by omega)];rfl)⟩
 rw[dF h14];rw[dT (show 14<=t.length by omega),Bool.true_and]at hf;refine goW ?_;rw[w6];refine st_any (by exact rfl) (sx_ixS (k:=t.length-6) rfl rfl hb6) (goW ?_);rw[show ((b6.toNat:Int) != 43) = !(b6 == 43) from u8_neI b6 43];have fin:res=(decide (h ≥ 0) && (decide (h<=23) && (decide (m ≥ 0) && (decide (m<=59) && k3))))->∀z,wpD gt C F63.body.rt.rt.rt.rt.rt.rt.rt.rt ((3,.val (.str t))::(4,.val (.int .i64 t.length))::z) St.init (bodyQ gt F63.res (Ret (.bool res))):=λhf z=>by
  conv=>whnf
  refine goW ?_;rw[w5];refine call_pf hm (by rfl) d1 (goW ?_);rw[w2];refine call_pf hm (by rfl) d2 (goW ?_);by_cases q1:h ≥ 0
  case neg =>
   rw[dF q1];refine goW ?_;exact⟨_,rfl,ret (by rw[hf,dF q1];rfl)⟩
  rw[dT q1];rw[dT q1,Bool.true_and]at hf;refine goW ?_;by_cases q2:h<=23
  case neg =>
   rw[dF q2];refine goW ?_;exact⟨_,rfl,ret (by rw[hf,dF q2];rfl)⟩
  rw[dT q2];rw[dT q2,Bool.true_and]at hf;refine goW ?_;by_cases q3:m ≥ 0
  case neg =>
   rw[dF q3];refine goW ?_;exact⟨_,rfl,ret (by rw[hf,dF q3];rfl)⟩
  rw[dT q3];rw[dT q3,Bool.true_and]at hf;refine goW ?_;by_cases q4:m<=59
  case neg =>
   rw[dF q4];refine goW ?_;exact⟨_,rfl,ret (by rw[hf,dF q4];rfl)⟩
  rw[dT q4];rw[dT q4,Bool.true_and]at hf;refine goW ?_;rw[w6];refine st_any (by exact rfl) (sx_slHiS (h:=t.length-6) rfl rfl (by omega)) (goW ?_);refine call_pf hm (by rfl) c3 (goW ?_);exact⟨_,rfl,ret hf⟩
 cases h43:(b6 == 43) with
 | true =>
  rw[h43,Bool.true_or,Bool.true_and]at hf;refine goW ?_;rw[w3];refine st_any (by exact rfl) (sx_ixS (k:=t.length-3) rfl rfl hb3) (goW ?_);rw[show ((b3.toNat:Int) != 58) = !(b3 == 58) from u8_neI b3 58];cases h58:(b3 == 58) with
  | false =>
   refine goW ?_;exact⟨_,rfl,ret (by rw[hf,h58];rfl)⟩
  | true =>
   rw[h58,Bool.true_and]at hf;have fin:=fin hf;refine goK ?_
   with_unfolding_all exact fin []
 | false =>
  rw[h43,Bool.false_or]at hf;refine goW ?_;rw[w6];refine st_any (by exact rfl) (sx_ixS (k:=t.length-6) rfl rfl hb6) (goW ?_);rw[show ((b6.toNat:Int) != 45) = !(b6 == 45) from u8_neI b6 45];cases h45:(b6 == 45) with
  | false =>
   refine goW ?_;exact⟨_,rfl,ret (by rw[hf,h45];rfl)⟩
  | true =>
   rw[h45,Bool.true_and]at hf;refine goW ?_;rw[w3];refine st_any (by exact rfl) (sx_ixS (k:=t.length-3) rfl rfl hb3) (goW ?_);rw[show ((b3.toNat:Int) != 58) = !(b3 == 58) from u8_neI b3 58];cases h58:(b3 == 58) with
   | false =>
    refine goW ?_;exact⟨_,rfl,ret (by rw[hf,h58];rfl)⟩
   | true =>
    rw[h58,Bool.true_and]at hf;have fin:=fin hf;refine goK ?_
    with_unfolding_all exact fin []
set_option maxHeartbeats 8000000 in
theorem time3_wp (hm:MonoC C)(hdg:∀(s:List UInt8) (a n:Nat),a<4611686018427387904->n<=9->s.length<4611686018427387904->PF C 111 [.str s,.int .i64 a,.int .i64 n] (.int .i64 (digI s a n)))
  (hck:∀s:List UInt8,s.length<4611686018427387904->PF C 110 [.str s] (.bool (clockB s))) (hdt:∀s:List UInt8,PF C 109 [.str s] (.bool (dateB s)))
  {s:List UInt8} (hl:s.length<4611686018427387904):wpF gt C F63 [.str s] St.init (Ret (.bool (timeR s))):=by
 have hf:timeR s=(dateB s || (clockB s || (decide (19<=s.length) && (atB s 10 84 && (dateB (s.take 10) && tailR (s.drop 11)))))):=rfl;have c1:=hck s hl;have e1:=hdt s;have e2:=hdt (s.take 10);generalize timeR s=res at hf ⊢;have ret:∀{o:Bool} {S:St},res=o->Ret (.bool res) (.ret (.bool o)) S:=λh=>by rw[h];exact Ret.sta trivial
 generalize dateB s=k1 at hf e1;generalize clockB s=k2 at hf c1;generalize dateB (s.take 10)=k3 at hf e2;refine⟨rfl,?_⟩;refine goW ?_;refine call_pf hm (by rfl) e1 ?_;cases k1 with
 | true =>
  refine goW ?_;exact⟨_,rfl,ret (by rw[hf];rfl)⟩
 | false =>
 rw[Bool.false_or]at hf;refine goW ?_;refine call_pf hm (by rfl) c1 ?_;cases k2 with
 | true =>
  refine goW ?_;exact⟨_,rfl,ret (by rw[hf];rfl)⟩
 | false =>
 rw[Bool.false_or]at hf;refine goW ?_;by_cases h19:(s.length:Int)<19
 ·rw[dT h19];refine goW ?_;exact⟨_,rfl,ret (by rw[hf,dF (by omega)];rfl)⟩
 rw[dF h19];rw[dT (show 19<=s.length by omega),Bool.true_and]at hf;obtain⟨bt,hbt⟩:∃b,s[10]? = some b:=⟨_,gE (by omega)⟩
 rw[atB_get hbt]at hf;refine goW ?_;refine st_any (by exact rfl) (sx_ixS (k:=10) rfl rfl hbt) (goW ?_);rw[show ((bt.toNat:Int) != 84) = !(bt == 84) from u8_neI bt 84];cases hT:(bt == 84) with
 | false =>
  refine goW ?_;exact⟨_,rfl,ret (by rw[hf,hT];rfl)⟩
 | true =>
 rw[hT,Bool.true_and]at hf;refine goW ?_;refine st_any (by exact rfl) (sx_slHiS (h:=10) rfl rfl (by omega)) (goW ?_);refine call_pf hm (by rfl) e2 ?_;cases k3 with
 | false =>
  refine goW ?_;exact⟨_,rfl,ret (by rw[hf];rfl)⟩
 | true =>
 rw[Bool.true_and]at hf;rw[hf];have fin:=λz=>timeTail_wp (gt:=gt) (z:=z) hm hdg hck (t:=s.drop 11) (by rw[lD];omega) (by rw[lD];omega);refine goW ?_;refine step_ruleO (sx_slLo (l:=11) rfl rfl (by omega)) ?_;refine goK ?_
 with_unfolding_all exact fin []
end
end Go.Dn

namespace Go.Dn
open Go
theorem cutC_true {c:UInt8}:∀{s d e:List UInt8},cutC c s=(d,e,true)->s=d++c::e
 | [],d,e,h=>by simp[cutC]at h
 | b::r,d,e,h=>by
  simp only[cutC]at h;split at h
  ·rename_i hb;rw[beq_iff_eq]at hb;simp only[Prod.mk.injEq]at h;obtain⟨rfl,rfl,_⟩:=h;rw[hb];rfl
  ·simp only[Prod.mk.injEq]at h;obtain⟨rfl,rfl,h3⟩:=h;rw[List.cons_append,<-cutC_true (s:=r) (d:=(cutC c r).1) (e:=(cutC c r).2.1) (by rw[<-h3])]
theorem cutC_app {c:UInt8}{e:List UInt8}:∀{d:List UInt8},c ∉ d->cutC c (d++c::e)=(d,e,true)
 | [],_=>by simp[cutC]
 | b::r,h=>by
  have hb:(b == c)=false:=by
   cases hh:(b == c) with
   | false=>rfl
   | true=>rw[beq_iff_eq]at hh;exact absurd (by rw[hh];simp) h
  have ih:=cutC_app (c:=c) (e:=e) (d:=r) λh'=>h (by simp[h']);simp only[List.cons_append,cutC,hb,ih,Bool.false_eq_true,if_false]
theorem hd_mem {c:UInt8}{l:List UInt8}(h:hd c l=true):c∈l:=by
 cases l with
 | nil=>cases h
 | cons b r =>
  have:b=c:=by simpa[hd] using h
  rw[this];simp
theorem not_mem_hd {c:UInt8}{l:List UInt8}(h:c ∉ l):hd c l=false:=by
 cases hh:hd c l with
 | false=>rfl
 | true=>exact absurd (hd_mem hh) h
theorem within_dig {a b:UInt8}{lo hi:Int}(h0:0<=lo)(h:withinB [a,b] lo hi=true):dig a=true/\dig b=true:=by
 unfold withinB at h;rw[bA,decide_eq_true_eq,decide_eq_true_eq]at h;exact(twoB_ok a b).1.1 (by omega)
theorem dig84:dig 84=false:=by decide
theorem date_ok {d:List UInt8}(h:dateB d=true):d.length=10/\(84:UInt8) ∉ d:=by
 have h10:d.length=10:=by
  unfold dateB at h;rw[bA,decide_eq_true_eq]at h;exact h.1
 refine⟨h10,?_⟩;obtain⟨b0,b1,b2,b3,b4,b5,b6,b7,b8,b9,rfl⟩:=ten h10;have e:dateB [b0,b1,b2,b3,b4,b5,b6,b7,b8,b9]=((b4 == 45) && ((b7 == 45) && (decide (0<=twoB [b0,b1]) && (decide (0<=twoB [b2,b3]) && (withinB [b5,b6] 1 12 && withinB [b8,b9] 1 (daysB (twoB [b0,b1]*100+twoB [b2,b3]) (twoB [b5,b6]))))))):=rfl;rw[e]at h;simp only[bA,beq_iff_eq,decide_eq_true_eq]at h;obtain⟨rfl,rfl,h1,h2,h3,h4⟩:=h;have g1:=(twoB_ok b0 b1).1.1 h1;have g2:=(twoB_ok b2 b3).1.1 h2;have g3:=within_dig (by decide) h3;have g4:=within_dig (by decide) h4;have n84:∀{b:UInt8},dig b=true->(84:UInt8)≠b:=λhb e=>by rw[<-e,dig84]at hb;cases hb
 simp only[List.mem_cons,List.not_mem_nil,or_false,not_or];exact⟨n84 g1.1,n84 g1.2,n84 g2.1,n84 g2.2,by decide,n84 g3.1,n84 g3.2,by decide,n84 g4.1,n84 g4.2⟩
theorem clock_ok {t:List UInt8}(h:clockB t=true):8<=t.length/\∀b∈t,b=58\/b=46\/dig b=true:=by
 have h8:8<=t.length:=by
  unfold clockB at h;rw[bA,decide_eq_true_eq]at h;exact h.1
 refine⟨h8,?_⟩
 match t,h8,h with
 | b0::b1::b2::b3::b4::b5::b6::b7::r,_,h =>
  have e:clockB (b0::b1::b2::b3::b4::b5::b6::b7::r)=(decide (8<=(b0::b1::b2::b3::b4::b5::b6::b7::r).length) && ((b2 == 58) && ((b5 == 58) && (withinB [b0,b1] 0 23 && (withinB [b3,b4] 0 59 && (withinB [b6,b7] 0 59 &&
   (decide ((b0::b1::b2::b3::b4::b5::b6::b7::r).length=8) || (hd 46 r && (decide (1<=(r.drop 1).length) && (decide ((r.drop 1).length<=9) && beqB (trimA tenD (r.drop 1)) [])))))))))):=rfl
  rw[e]at h;simp only[bA,beq_iff_eq]at h;obtain⟨_,rfl,rfl,h1,h2,h3,h4⟩:=h;have g1:=within_dig (by decide) h1;have g2:=within_dig (by decide) h2;have g3:=within_dig (by decide) h3;have hr:∀b∈r,b=58\/b=46\/dig b=true:=by
   intro b hb;rw[Bool.or_eq_true,decide_eq_true_eq]at h4;rcases h4 with h4 | h4
   ·have:r=[]:=nL (by simpa using h4);rw[this]at hb;simp at hb
   ·simp only[bA]at h4;obtain⟨q1,_,_,q2⟩:=h4;rw[beqB_iff,trimA_nil]at q2;cases r with
    | nil=>simp at hb
    | cons c q =>
     have:c=46:=by simpa[hd] using q1
     rcases List.mem_cons.1 hb with rfl | hb
     ·exact .inr (.inl this)
     ·exact .inr (.inr (by rw[<-tenD_dig];exact q2 b hb))
  intro b hb;simp only[List.mem_cons]at hb;rcases hb with rfl | rfl | rfl | rfl | rfl | rfl | rfl | rfl | hb
  ·exact .inr (.inr g1.1)
  ·exact .inr (.inr g1.2)
  ·exact .inl rfl
  ·exact .inr (.inr g2.1)
  ·exact .inr (.inr g2.2)
  ·exact .inl rfl
  ·exact .inr (.inr g3.1)
  ·exact .inr (.inr g3.2)
  ·exact hr b hb
theorem clock_no {t:List UInt8}(h:clockB t=true){c:UInt8}(hc:¬(c=58\/c=46\/dig c=true)):c ∉ t:=λhm=>hc ((clock_ok h).2 c hm)
theorem clock_zone {t:List UInt8}(h:clockB t=true):(zoneB t).1=t:=by
 have n90:(90:UInt8) ∉ t:=clock_no h (by decide);have n43:(43:UInt8) ∉ t:=clock_no h (by decide);have n45:(45:UInt8) ∉ t:=clock_no h (by decide);unfold zoneB;rw[if_neg,if_pos]
 ·right
  exact⟨not_mem_hd λhm=>n43 (List.mem_of_mem_drop hm),not_mem_hd λhm=>n45 (List.mem_of_mem_drop hm)⟩
 ·rw[Bool.not_eq_true];exact not_mem_hd λhm=>n90 (List.mem_reverse.1 hm)
theorem tl_at {c:UInt8}{t:List UInt8}(h:1<=t.length):tl c t=atB t (t.length-1) c:=by
 obtain⟨b,hb⟩:∃b,t[t.length-1]? = some b:=⟨_,gE (by omega)⟩
 rw[tl_last hb (by omega),atB_get hb]
theorem atB_drop (t:List UInt8)(a k:Nat)(c:UInt8):atB (t.drop a) k c=atB t (a+k) c:=by
 unfold atB;rw[List.drop_drop]
theorem tail_zone {t:List UInt8}(h8:8<=t.length):tailR t=clockB (zoneB t).1:=by
 by_cases hc:clockB t=true
 ·rw[clock_zone hc,hc];unfold tailR;rw[hc];rfl
 have hc':clockB t=false:=by simpa using hc
 have e1:atB (t.drop (t.length-6)) 3 58=atB t (t.length-3) 58:=by rw[atB_drop];congr 1;omega
 have e2:withinB (sub (t.drop (t.length-6)) 1 3) 0 23=(decide (digI t (t.length-5) 2 ≥ 0) && decide (digI t (t.length-5) 2<=23)):=by
  rw[digI_two];unfold sub withinB;rw[List.drop_drop,show t.length-6+1=t.length-5 by omega]
 have e3:withinB ((t.drop (t.length-6)).drop 4) 0 59=(decide (digI t (t.length-2) 2 ≥ 0) && decide (digI t (t.length-2) 2<=59)):=by
  rw[digI_two];unfold withinB;rw[List.drop_drop,show t.length-6+4=t.length-2 by omega,List.take_of_length_le (by rw[lD];omega)]
 unfold tailR zoneB;rw[hc',Bool.false_or,tl_at (by omega),e1,e2,e3];by_cases hz:atB t (t.length-1) 90=true
 ·rw[if_pos hz,if_pos hz]
 rw[if_neg hz,if_neg hz];have short:t.length<14->clockB (t.take (t.length-6))=false:=λh=>by
  cases hk:clockB (t.take (t.length-6)) with
  | false=>rfl
  | true =>
   have:=(clock_ok hk).1;rw[lT]at this;omega
 cases h43:atB t (t.length-6) 43 with
 | false =>
  cases h45:atB t (t.length-6) 45 with
  | false =>
   rw[if_pos (.inr ⟨rfl,rfl⟩)];simp only[Bool.or_self,Bool.false_and,Bool.and_false,hc']
  | true =>
   rw[if_neg (by rintro (h | ⟨_,h⟩);omega;cases h)];cases h58:atB t (t.length-3) 58 with
   | false =>
    rw[if_pos (.inl rfl)];simp only[Bool.false_and,Bool.and_false,hc']
   | true =>
    generalize decide (digI t (t.length-5) 2 ≥ 0)=x1;generalize decide (digI t (t.length-5) 2<=23)=x2;generalize decide (digI t (t.length-2) 2 ≥ 0)=x3;generalize decide (digI t (t.length-2) 2<=59)=x4;by_cases h14:14<=t.length
    ·rw[dT h14];cases x1<;>cases x2<;>cases x3<;>cases x4<;>simp[hc']
    ·rw[dF h14];have:=short (by omega);cases x1<;>cases x2<;>cases x3<;>cases x4<;>simp[hc',this]
 | true =>
  rw[if_neg (by rintro (h | ⟨h,_⟩);omega;cases h)];cases h58:atB t (t.length-3) 58 with
  | false =>
   rw[if_pos (.inl rfl)];simp only[Bool.false_and,Bool.and_false,hc']
  | true =>
   generalize decide (digI t (t.length-5) 2 ≥ 0)=x1;generalize decide (digI t (t.length-5) 2<=23)=x2;generalize decide (digI t (t.length-2) 2 ≥ 0)=x3;generalize decide (digI t (t.length-2) 2<=59)=x4;by_cases h14:14<=t.length
   ·rw[dT h14];cases x1<;>cases x2<;>cases x3<;>cases x4<;>simp[hc']
   ·rw[dF h14];have:=short (by omega);cases x1<;>cases x2<;>cases x3<;>cases x4<;>simp[hc',this]
theorem zone_drop {s:List UInt8}(h19:19<=s.length):(zoneB s).1=s.take 11++(zoneB (s.drop 11)).1:=by
 have hl:(s.drop 11).length=s.length-11:=lD;have d6:(s.drop 11).drop ((s.drop 11).length-6)=s.drop (s.length-6):=by rw[List.drop_drop,hl];congr 1;omega
 have tk:∀k,k<=6->s.take (s.length-k)=s.take 11++(s.drop 11).take ((s.drop 11).length-k):=λk hk=>by
  rw[hl,show s.length-k=11+(s.length-11-k) by omega,List.take_add]
 have al:s=s.take 11++s.drop 11:=(tkD 11 s).symm;have a1:∀c,atB (s.drop 11) ((s.drop 11).length-6) c=atB s (s.length-6) c:=λc=>by rw[atB_drop,hl];congr 1;omega
 have a2:tl 90 (s.drop 11)=tl 90 s:=by rw[tl_at (by omega),tl_at (by omega),atB_drop,hl];congr 1;omega
 unfold zoneB;rw[a2,a1,a1,d6];by_cases hz:tl 90 s=true
 ·rw[if_pos hz,if_pos hz];exact tk 1 (by omega)
 rw[if_neg hz,if_neg hz];by_cases h1:atB s (s.length-6) 43=false/\atB s (s.length-6) 45=false
 ·rw[if_pos (.inr h1),if_pos (.inr h1)];exact al
 have n1:¬(s.length<6\/(atB s (s.length-6) 43=false/\atB s (s.length-6) 45=false)):=by rintro (h | h);omega;exact h1 h
 have n2:¬((s.drop 11).length<6\/(atB s (s.length-6) 43=false/\atB s (s.length-6) 45=false)):=by rintro (h | h);omega;exact h1 h
 rw[if_neg n1,if_neg n2];by_cases h2:atB (s.drop (s.length-6)) 3 58=false\/withinB (sub (s.drop (s.length-6)) 1 3) 0 23=false\/withinB ((s.drop (s.length-6)).drop 4) 0 59=false
 ·rw[if_pos h2,if_pos h2];exact al
 ·rw[if_neg h2,if_neg h2];exact tk 6 (by omega)
theorem timeR_eq (s:List UInt8):timeR s=timeB s:=by
 unfold timeR timeB
 congr 2
 by_cases h19:19<=s.length
 ·rw[dT h19,Bool.true_and,tail_zone (by rw[lD];omega),zone_drop h19];generalize (zoneB (s.drop 11)).1=z;obtain⟨b,hb⟩:∃b,s[10]? = some b:=⟨_,gE (by omega)⟩
  have hl10:(s.take 10).length=10:=by rw[lT];omega
  have h11:s.take 11=s.take 10++[b]:=by
   have:=List.take_add_one (l:=s) (i:=10);rw[hb]at this;exact this
  rw[h11,aA,List.singleton_append,atB_get hb];generalize s.take 10=d at hl10 ⊢;by_cases hok:(b == 84)=true/\dateB d=true
  ·have hb84:b=84:=by simpa using hok.1
   subst hb84;rw[cutC_app (date_ok hok.2).2];rfl
  ·have hL:((b == 84) && (dateB d && clockB z))=false:=by
    cases h1:(b == 84) with
    | false=>rfl
    | true =>
     cases h2:dateB d with
     | false=>rfl
     | true=>exact absurd ⟨h1,h2⟩ hok
   rw[hL]
   symm
   cases hq:cutC 84 (d++b::z) with
   | mk d' q =>
    obtain⟨c',ok⟩:=q;cases ok with
    | false=>rfl
    | true =>
     simp only[Bool.true_and];have he:=cutC_true hq;cases hd':dateB d' with
     | false=>rfl
     | true =>
      exfalso;have hl':=(date_ok hd').1;have:=List.append_inj he (by omega);obtain⟨e1,e2⟩:=this;simp only[List.cons.injEq]at e2;exact hok ⟨by rw[e2.1];rfl,by rw[e1];exact hd'⟩
 ·rw[dF h19,Bool.false_and]
  symm
  cases hq:cutC 84 (zoneB s).1 with
  | mk d' q =>
   obtain⟨c',ok⟩:=q;cases ok with
   | false=>rfl
   | true =>
    simp only[Bool.true_and];have he:=congrArg List.length (cutC_true hq);have hz:=zoneB_le s;rw[lA,lC]at he;cases hd':dateB d' with
    | false=>rfl
    | true =>
     cases hc':clockB c' with
     | false=>rfl
     | true =>
      have h1:=(date_ok hd').1;have h2:=(clock_ok hc').1;omega
end Go.Dn

namespace Go.Proofs.YthgidapmofcloaaGreatDoor.Fn
open Go.ChangeShapes Go.WideShapes Go.ChangeAt Go.RowKit Go.Dn
theorem digitR (b:UInt8):PF A 147 [.int .u8 b.toNat] (.bool (dig b)) :=
 pf Tryz.func147 (by kernel_rfl) C1.F147_ok (s1 trivial) digitR_wp
theorem runR (s:List UInt8)(k:Nat)(hk:k<=s.length)(h:s.length<4611686018427387904):PF A 146 [.str s,.int .i64 k] (.int .i64 ((k+runB (s.drop k):Nat):Int)) :=
 pf Tryz.func146 (by kernel_rfl) C1.F146_ok (s2 trivial trivial) (runR_wp hm digitR hk h)
theorem digitsR (n:Nat)(h:n<9223372036854775808):PF A 178 [.int .i64 n] (.str (decB n)) :=
 pf Tryz.func178 (by kernel_rfl) C1.F178_ok (s1 trivial) (digits_wp hm h)
theorem decimalR (e:Int)(h1:-999999<=e)(h2:e<=999999):PF A 148 [.int .i64 e] (.str (itoaB e)) :=
 pf Tryz.func148 (by kernel_rfl) C1.F148_ok (s1 trivial) (decimal_wp hm digitsR h1 h2)
theorem splitR (s:List UInt8)(h:s.length<4611686018427387904):PF A 106 [.str s] (encSplit (splitB s)) :=
 pf Tryz.func106 (by kernel_rfl) C1.F106_ok (s1 trivial) (splitR_wp hm runR h)
theorem joinR (p:Parts3)(h:p.2.1.length<=1000):PF A 107 [encP p] (encJoin (joinB p)) :=
 pf Tryz.func107 (by kernel_rfl) C1.F107_ok (s1 ⟨trivial,trivial,trivial,trivial⟩) (joinR_wp hm digitR decimalR h)
theorem normalR (s:List UInt8)(h:s.length<4611686018427387904):PF A 61 [.str s] (encJoin (normB s)) :=
 pf Tryz.func61 (by kernel_rfl) C1.F61_ok (s1 trivial) (normalR_wp hm splitR joinR h)
theorem digs3 (s:List UInt8)(a n:Nat)(ha:a<4611686018427387904)(hn:n<=9)(h:s.length<4611686018427387904):PF A 111 [.str s,.int .i64 a,.int .i64 n] (.int .i64 (digI s a n)) :=
 pf Tryz.func111 (by kernel_rfl) C1.F111_ok (s3 trivial trivial trivial) (digs_wp hm ha hn h)
theorem date3 (s:List UInt8):PF A 109 [.str s] (.bool (dateB s)) :=
 pf Tryz.func109 (by kernel_rfl) C1.F109_ok (s1 trivial) (date3_wp hm digs3)
theorem clock3 (s:List UInt8)(h:s.length<4611686018427387904):PF A 110 [.str s] (.bool (clockB s)) :=
 pf Tryz.func110 (by kernel_rfl) C1.F110_ok (s1 trivial) (clock3_wp hm digs3 h)
theorem time3 (s:List UInt8)(h:s.length<4611686018427387904):PF A 63 [.str s] (.bool (timeB s)):=by
 rw[<-timeR_eq];exact pf Tryz.func63 (by kernel_rfl) C1.F63_ok (s1 trivial) (time3_wp hm digs3 clock3 date3 h)
theorem charR (c:Int):PF A 179 [.int .i64 c] (.bool (charB c)) :=
 pf Tryz.func179 (by kernel_rfl) C1.F179_ok (s1 trivial) charR_wp
theorem oneR (s:List UInt8)(k:Nat)(hk:k<s.length)(h:s.length<4611686018427387904):PF A 149 [.str s,.int .i64 k] (encFirst (firstC (s.drop k))) :=
 pf Tryz.func149 (by kernel_rfl) C1.F149_ok (s2 trivial trivial) (one_wp hm charR hk h)
end Go.Proofs.YthgidapmofcloaaGreatDoor.Fn

namespace Go.Dn
open Go
theorem goJ {G G':Prop}(k:G')(h:G'->G:=by
 intro hk;((try refine And.intro (by rfl) ?_);(conv=>whnf);(repeat (refine sI (by rfl) ?_;conv=>whnf));(generalize hE:keepE _ _=e0;revert hE;apply kI;(repeat (first | exact kN _ | (apply kC;with_unfolding_all rfl;rfl)));rintro rfl));exact hk):G:=h k
end Go.Dn

namespace Go.Dn
open Go Go.Proofs.C1
set_option maxRecDepth 100000
attribute [local irreducible] afterS keepE
set_option maxHeartbeats 64000000
def hexV (b:UInt8):Int:=if 48<=b.toNat/\b.toNat<=57 then b.toNat-48 else if 97<=b.toNat/\b.toNat<=102 then b.toNat-87 else if 65<=b.toNat/\b.toNat<=70 then b.toNat-55 else -1
theorem hexV_bd (b:UInt8):-1<=hexV b/\hexV b<16:=by
 unfold hexV;split
 ·omega
 ·split
  ·omega
  ·split<;>omega
def numH:List UInt8->Nat->Nat->Int
 | _,0,n=>n
 | [],_+1,_=>-1
 | b::r,k+1,n=>if hexV b<0 then -1 else numH r k (n*16+(hexV b).toNat)
theorem numH_short:∀{s:List UInt8} {k n:Nat},s.length<k->numH s k n=-1
 | s,0,_,h=>by omega
 | [],_+1,_,_=>rfl
 | b::r,k+1,n,h=>by
  rw[numH];split
  ·rfl
  ·exact numH_short (by simp only[lC]at h;omega)
theorem numH_bd:∀{s:List UInt8} {k n:Nat},numH s k n=-1\/(k<=s.length/\0<=numH s k n/\numH s k n<(((n+1)*16 ^ k:Nat):Int))
 | s,0,n=>.inr ⟨Nat.zero_le _,by simp[numH],by simp[numH];omega⟩
 | [],_+1,_=>.inl rfl
 | b::r,k+1,n=>by
  rw[numH];split
  ·exact .inl rfl
  ·have hb:=hexV_bd b;rcases numH_bd (s:=r) (k:=k) (n:=n*16+(hexV b).toNat) with h | ⟨h1,h2,h3⟩
   ·exact .inl h
   ·refine .inr ⟨by simp only[lC];omega,h2,?_⟩;have h4:(n*16+(hexV b).toNat+1)*16 ^ k<=((n+1)*16)*16 ^ k:=Nat.mul_le_mul_right _ (by omega);rw[show (n+1)*16 ^ (k+1)=((n+1)*16)*16 ^ k by rw[Nat.pow_succ,Nat.mul_assoc,Nat.mul_comm 16]];exact Int.lt_of_lt_of_le h3 (Int.ofNat_le.2 h4)
def pairB (r:List UInt8):Option (Nat×Nat):=if numH r 4 0<0 then none else if numH r 4 0<55296\/numH r 4 0 > 57343 then some ((numH r 4 0).toNat,5) else if numH r 4 0 ≥ 56320\/decide ([92,117] <+: r.drop 4)=false then none else
 if numH (r.drop 6) 4 0<56320\/numH (r.drop 6) 4 0 > 57343 then none else some ((65536+(numH r 4 0-55296)*1024+numH (r.drop 6) 4 0-56320).toNat,11)
def escU:List UInt8->Option (Nat×Nat)
 | []=>none
 | c::r=>if c.toNat=34\/c.toNat=92\/c.toNat=47 then some (c.toNat,1) else if c.toNat=98 then some (8,1) else if c.toNat=116 then some (9,1) else if c.toNat=110 then some (10,1) else if c.toNat=102 then some (12,1) else if c.toNat=114 then some (13,1) else
  if c.toNat=117 then pairB r else none
def encEsc:Option (Nat×Nat)->AV
 | some p=>.tup [.int .i64 p.1,.int .i64 p.2]
 | none=>.tup [.int .i64 0,.int .i64 0]
def encC (c:Nat):List UInt8:=if c<128 then [UInt8.ofNat c] else if c<2048 then [UInt8.ofNat (192+c / 64),UInt8.ofNat (128+c % 64)] else if c<65536 then [UInt8.ofNat (224+c / 4096),UInt8.ofNat (128+c / 64 % 64),UInt8.ofNat (128+c % 64)] else
 [UInt8.ofNat (240+c / 262144),UInt8.ofNat (128+c / 4096 % 64),UInt8.ofNat (128+c / 64 % 64),UInt8.ofNat (128+c % 64)]
section
variable {gt:GT}{C:CallT}
theorem value_wp {b:UInt8}:wpF gt C F234 [.int .u8 b.toNat] St.init (Ret (.int .i64 (hexV b))):=by
 have hb:=u8_lt b;have w8:∀n:Nat,n<256->wr .u8 (n:Int)=n:=λn h=>by rw[wr_eq];exact wrap8 h
 refine⟨rfl,?_⟩;refine goW ?_;by_cases a1:(b.toNat:Int) ≥ 48
 ·rw[dT a1];refine goW ?_;by_cases a2:(b.toNat:Int)<=57
  ·rw[dT a2];refine goW ?_;rw[show (b.toNat:Int)-48=((b.toNat-48:Nat):Int) by omega,w8 _ (by omega),wr64 (by omega) (by omega)];refine⟨_,rfl,?_⟩;rw[show hexV b=((b.toNat-48:Nat):Int) by unfold hexV;rw[if_pos (by omega)];omega];exact Ret.sta trivial
  rw[dF a2];refine goW ?_;by_cases a3:(b.toNat:Int) ≥ 97
  ·rw[dT a3];refine goW ?_;by_cases a4:(b.toNat:Int)<=102
   ·rw[dT a4];refine goW ?_;rw[show (b.toNat:Int)-97=((b.toNat-97:Nat):Int) by omega,w8 _ (by omega),wr64 (n:=((b.toNat-97:Nat):Int)) (by omega) (by omega),wr64 (by omega) (by omega)];refine⟨_,rfl,?_⟩;rw[show hexV b=((b.toNat-97:Nat):Int)+10 by unfold hexV;rw[if_neg (by omega),if_pos (by omega)];omega];exact Ret.sta trivial
   rw[dF a4];refine goW ?_;rw[dT (show (b.toNat:Int) ≥ 65 by omega)];refine goW ?_;rw[dF (show ¬(b.toNat:Int)<=70 by omega)];refine goW ?_;refine⟨_,rfl,?_⟩;rw[show hexV b=-1 by unfold hexV;rw[if_neg (by omega),if_neg (by omega),if_neg (by omega)]];exact Ret.sta trivial
  rw[dF a3];refine goW ?_;by_cases a5:(b.toNat:Int) ≥ 65
  ·rw[dT a5];refine goW ?_;by_cases a6:(b.toNat:Int)<=70
   ·rw[dT a6];refine goW ?_;rw[show (b.toNat:Int)-65=((b.toNat-65:Nat):Int) by omega,w8 _ (by omega),wr64 (n:=((b.toNat-65:Nat):Int)) (by omega) (by omega),wr64 (by omega) (by omega)];refine⟨_,rfl,?_⟩;rw[show hexV b=((b.toNat-65:Nat):Int)+10 by unfold hexV;rw[if_neg (by omega),if_neg (by omega),if_pos (by omega)];omega];exact Ret.sta trivial
   rw[dF a6];refine goW ?_;refine⟨_,rfl,?_⟩;rw[show hexV b=-1 by unfold hexV;rw[if_neg (by omega),if_neg (by omega),if_neg (by omega)]];exact Ret.sta trivial
  rw[dF a5];refine goW ?_;refine⟨_,rfl,?_⟩;rw[show hexV b=-1 by unfold hexV;rw[if_neg (by omega),if_neg (by omega),if_neg (by omega)]];exact Ret.sta trivial
 rw[dF a1];refine goW ?_;rw[dF (show ¬(b.toNat:Int) ≥ 97 by omega)];refine goW ?_;rw[dF (show ¬(b.toNat:Int) ≥ 65 by omega)];refine goW ?_;refine⟨_,rfl,?_⟩;rw[show hexV b=-1 by unfold hexV;rw[if_neg (by omega),if_neg (by omega),if_neg (by omega)]];exact Ret.sta trivial
theorem or16 {a b:Nat}(hb:b<16)(ha:a*16+b<9223372036854775808) :
  IntKind.wrap .i64 ((BitVec.ofInt (IntKind.bits .i64) ((a*16:Nat):Int) ||| BitVec.ofInt (IntKind.bits .i64) (b:Int)).toNat:Int)=((a*16+b:Nat):Int):=by
 rw[show IntKind.bits .i64=64 from rfl,BitVec.ofInt_natCast,BitVec.ofInt_natCast,BitVec.toNat_or,BitVec.toNat_ofNat,BitVec.toNat_ofNat,Nat.mod_eq_of_lt (show a*16<2 ^ 64 by omega),Nat.mod_eq_of_lt (show b<2 ^ 64 by omega)];have:=Nat.shiftLeft_add_eq_or_of_lt (i:=4) (b:=b) (by omega) a;rw[Nat.shiftLeft_eq]at this;rw[show a*16=a*2 ^ 4 by omega,<-this,wrap64 (by omega)]
theorem step16 {n q:Nat}(hq:q<16)(hn:n<1125899906842624) :
  IntKind.wrap .i64 ((BitVec.ofInt (IntKind.bits .i64) (wr .i64 ((n:Int)*2 ^ (min (Int.toNat 4) (IntKind.bits .i64)))) ||| BitVec.ofInt (IntKind.bits .i64) (q:Int)).toNat:Int)=((n*16+q:Nat):Int):=by
 have e1:wr .i64 ((n:Int)*2 ^ (min (Int.toNat 4) (IntKind.bits .i64)))=((n*16:Nat):Int):=by
  rw[show min (Int.toNat 4) (IntKind.bits .i64)=4 by decide,show ((2:Int) ^ 4)=16 by decide,wr64 (by omega) (by omega)];omega
 rw[e1,or16 hq (by omega)]
abbrev E_hex (s:List UInt8)(n k i:Int):Env:=[(0,.val (.str s)),(5,.val (.int .i64 n)),(12,.val (.int .i64 k)),(13,.val (.int .i64 i))]
theorem hex_wp (hm:MonoC C)(hv:∀b:UInt8,PF C 234 [.int .u8 b.toNat] (.int .i64 (hexV b))){s:List UInt8}{k:Nat}(hk:k<=4):wpF gt C F217 [.str s,.int .i64 k] St.init (Ret (.int .i64 (numH s k 0))):=by
 refine⟨rfl,?_⟩;refine goW ?_;by_cases c:(s.length:Int)<k
 ·rw[dT c];refine goW ?_;refine⟨_,rfl,?_⟩;rw[numH_short (by omega)];exact Ret.sta trivial
 rw[dF c];refine goW ?_;refine loop_rule hm (α:=Nat) (λi env S'=>∃n:Nat,i<=k/\n<16 ^ i/\numH s k 0=numH (s.drop i) (k-i) n/\env=E_hex s n k i/\S'=St.init) (λi=>k-i) ?_ (a:=0) ⟨0,Nat.zero_le _,by simp,rfl,rfl,rfl⟩;rintro i env S' ⟨n,hi,hn,hp,rfl,rfl⟩;refine goW ?_;by_cases c2:(i:Int)<k
 case neg =>
  rw[dF c2];obtain rfl:k=i:=by omega
  rw[Nat.sub_self,numH]at hp;refine goW ?_;exact⟨_,rfl,by rw[hp];exact Ret.sta trivial⟩
 rw[dT c2];have his:i<s.length:=by omega
 have hge:s[i]? = some s[i]:=gE his;rw[dC his,show k-i=(k-(i+1))+1 by omega,numH]at hp;have hb:=hexV_bd s[i];have hv:=hv s[i];generalize s[i]=b at hge hp hb hv;refine goW ?_;refine step_ruleO (sx_ixS (k:=i) rfl rfl hge) (goW ?_);refine call_pf hm (by rfl) hv (goW ?_);by_cases c3:hexV b<0
 ·rw[dT c3];rw[if_pos c3]at hp;refine goW ?_;exact⟨_,rfl,by rw[hp];exact Ret.sta trivial⟩
 rw[dF c3];rw[if_neg c3]at hp;obtain⟨q,hq⟩:∃q:Nat,hexV b=q:=⟨(hexV b).toNat,by omega⟩
 rw[hq]at hp hb ⊢;rw[Int.toNat_natCast]at hp;have h16:16 ^ (i+1)<=16 ^ 4:=Nat.pow_le_pow_right (by decide) (by omega);have h17:(n+1)*16<=16 ^ (i+1):=by rw[Nat.pow_succ];exact Nat.mul_le_mul_right _ hn
 have e4:(16:Nat) ^ 4=65536:=by decide
 generalize 16 ^ (i+1)=pw at h16 h17;generalize (16:Nat) ^ 4=p4 at h16 e4;refine goW ?_;rw[step16 (by omega) (by omega),wrNat (by omega)];exact⟨i+1,⟨n*16+q,by omega,by omega,hp,rfl,rfl⟩,by omega⟩
end

set_option maxHeartbeats 64000000
section
variable {gt:GT}{C:CallT}
theorem hasPreU_wp {s p:List UInt8}(hs:s.length<9223372036854775807):wpF gt C F204 [.str s,.str p] St.init (Ret (.bool (decide (p <+: s)))):=by
 refine⟨rfl,?_⟩;refine goW ?_;by_cases c:(s.length:Int) ≥ p.length
 ·rw[dT c];refine goW ?_;refine st_any (by exact rfl) (sx_slHiS (h:=p.length) rfl rfl (by omega)) (goW ?_);refine⟨_,rfl,?_⟩;rw[show decide (p <+: s)=beqB (s.take p.length) p by
   by_cases h:s.take p.length=p
   ·rw[beqB_true h,dT (List.prefix_iff_eq_take.2 h.symm)]
   ·rw[beqB_false h,dF λe=>h (List.prefix_iff_eq_take.1 e).symm]]
  exact Ret.sta trivial
 ·rw[dF c];refine goW ?_;refine⟨_,rfl,?_⟩;rw[dF (λe:p <+: s=>c (by have:=e.length_le;omega))];exact Ret.sta trivial
theorem hasPreW_wp (hm:MonoC C){s p:List UInt8}(h:PF C 204 [.str s,.str p] (.bool (decide (p <+: s)))):wpF gt C F185 [.str s,.str p] St.init (Ret (.bool (decide (p <+: s)))):=by
 generalize decide (p <+: s)=b at *;refine⟨rfl,?_⟩;refine goW ?_;refine call_pf hm (by rfl) h (goW ?_);exact⟨_,rfl,Ret.sta trivial⟩
theorem sta_esc (x:Option (Nat×Nat)):Sta (encEsc x):=by cases x<;>exact⟨trivial,trivial,trivial⟩
theorem pair_wp (hm:MonoC C)(hh:∀s:List UInt8,PF C 217 [.str s,.int .i64 4] (.int .i64 (numH s 4 0)))(hpre:∀s:List UInt8,s.length<4611686018427387904->PF C 185 [.str s,.str [92,117]] (.bool (decide ([92,117] <+: s))))
  {c:UInt8} {r:List UInt8} (hl:r.length<4611686018427387903):wpF gt C F199 [.str (c::r)] St.init (Ret (encEsc (pairB r))):=by
 have hb:=numH_bd (s:=r) (k:=4) (n:=0);have hb2:=numH_bd (s:=r.drop 6) (k:=4) (n:=0);have h1:=hh r;have h2:=hh (r.drop 6);have hp:=hpre (r.drop 4) (by rw[lD];omega);have hpl:decide ([92,117] <+: r.drop 4)=true->6<=r.length:=λh=>by have:=(of_decide_eq_true h).length_le;simp only[lD,lC,lN]at this;omega
 have hpb:pairB r=if numH r 4 0<0 then none else if numH r 4 0<55296\/numH r 4 0 > 57343 then some ((numH r 4 0).toNat,5) else if numH r 4 0 ≥ 56320\/decide ([92,117] <+: r.drop 4)=false then none else
  if numH (r.drop 6) 4 0<56320\/numH (r.drop 6) 4 0 > 57343 then none else some ((65536+(numH r 4 0-55296)*1024+numH (r.drop 6) 4 0-56320).toNat,11):=rfl
 generalize pairB r=pb at *;generalize decide ([92,117] <+: r.drop 4)=P at *;generalize numH r 4 0=a at *;generalize numH (r.drop 6) 4 0=b at *;have e16:(((0+1)*16 ^ 4:Nat):Int)=65536:=by decide
 rw[e16]at hb hb2;have none_:∀{S:St},pb=none->Ret (encEsc pb) (.ret (.tup [.int .i64 0,.int .i64 0])) S:=λh=>by rw[h];exact Ret.sta (sta_esc none)
 refine⟨rfl,?_⟩;refine goW ?_;refine step_ruleO (sx_slLo (l:=1) rfl rfl (by simp)) ?_;rw[show (c::r).drop 1=r from rfl];refine goW ?_;refine call_pf hm (by rfl) h1 (goW ?_);by_cases a1:a<55296
 ·rw[dT a1];refine goW ?_;by_cases a0:a<0
  ·rw[dT a0];refine goW ?_;exact⟨_,rfl,none_ (by rw[hpb,if_pos a0])⟩
  ·rw[dF a0];refine goW ?_;refine⟨_,rfl,?_⟩;rw[hpb,if_neg a0,if_pos (.inl a1)];simp only[encEsc];rw[Int.toNat_of_nonneg (by omega)];exact Ret.sta (u:=.tup [.int .i64 a,.int .i64 5]) ⟨trivial,trivial,trivial⟩
 rw[dF a1];have ha4:4<=r.length:=by rcases hb with h | h;omega;exact h.1
 refine goW ?_;by_cases a2:a > 57343
 ·rw[dT a2];refine goW ?_;rw[dF (show ¬a<0 by omega)];refine goW ?_;refine⟨_,rfl,?_⟩;rw[hpb,if_neg (by omega),if_pos (.inr a2)];simp only[encEsc];rw[Int.toNat_of_nonneg (by omega)];exact Ret.sta (u:=.tup [.int .i64 a,.int .i64 5]) ⟨trivial,trivial,trivial⟩
 rw[dF a2];rw[if_neg (by omega),if_neg (by omega)]at hpb;refine goW ?_;by_cases a3:a ≥ 56320
 ·rw[dT a3];rw[if_pos (.inl a3)]at hpb;refine goW ?_;exact⟨_,rfl,none_ hpb⟩
 rw[dF a3];refine goW ?_;refine st_any (by exact rfl) (sx_slLo (l:=5) rfl rfl (by simp only[lC];omega)) ?_;rw[show (c::r).drop 5=r.drop 4 from rfl];refine goW ?_;refine call_pf hm (by rfl) hp ?_;cases P with
 | false =>
  rw[if_pos (.inr rfl)]at hpb;refine goW ?_;exact⟨_,rfl,none_ hpb⟩
 | true =>
 have hpl:=hpl rfl;rw[if_neg (by simp;omega)]at hpb;refine goW ?_;refine step_ruleO (sx_slLo (l:=7) rfl rfl (by simp only[lC];omega)) ?_;rw[show (c::r).drop 7=r.drop 6 from rfl];refine goW ?_;refine call_pf hm (by rfl) h2 (goW ?_);by_cases b1:b<56320
 ·rw[dT b1];rw[if_pos (.inl b1)]at hpb;refine goW ?_;exact⟨_,rfl,none_ hpb⟩
 rw[dF b1];refine goW ?_;by_cases b2:b > 57343
 ·rw[dT b2];rw[if_pos (.inr b2)]at hpb;refine goW ?_;exact⟨_,rfl,none_ hpb⟩
 rw[dF b2];rw[if_neg (by omega)]at hpb;refine goW ?_;rw[wr64 (n:=a-55296) (by omega) (by omega)];have es:wr .i64 ((a-55296)*2 ^ (min (Int.toNat 10) (IntKind.bits .i64)))=(a-55296)*1024:=by
  rw[show min (Int.toNat 10) (IntKind.bits .i64)=10 by decide,show ((2:Int) ^ 10)=1024 by decide,wr64 (by omega) (by omega)]
 rw[es,wr64 (n:=65536+(a-55296)*1024) (by omega) (by omega),wr64 (n:=65536+(a-55296)*1024+b) (by omega) (by omega),wr64 (n:=65536+(a-55296)*1024+b-56320) (by omega) (by omega)];refine⟨_,rfl,?_⟩;rw[hpb];simp only[encEsc];rw[Int.toNat_of_nonneg (by omega)];exact Ret.sta (u:=.tup [.int .i64 (65536+(a-55296)*1024+b-56320),.int .i64 11]) ⟨trivial,trivial,trivial⟩
theorem escaped_wp (hm:MonoC C)(hp:∀(c:UInt8) (r:List UInt8),r.length<4611686018427387903->PF C 199 [.str (c::r)] (encEsc (pairB r))){s:List UInt8}(hl:s.length<4611686018427387904) :
  wpF gt C F174 [.str s] St.init (Ret (encEsc (escU s))):=by
 refine⟨rfl,?_⟩;cases s with
 | nil =>
  refine goW ?_;exact⟨_,rfl,Ret.sta (sta_esc none)⟩
 | cons c r =>
 have hp:=hp c r (by simp only[lC]at hl;omega);have hge:(c::r)[0]? = some c:=rfl;have hne:beqB (c::r) []=false:=rfl;have he:escU (c::r)=if c.toNat=34\/c.toNat=92\/c.toNat=47 then some (c.toNat,1) else if c.toNat=98 then some (8,1) else if c.toNat=116 then some (9,1) else if c.toNat=110 then some (10,1) else if c.toNat=102 then some (12,1) else if c.toNat=114 then some (13,1) else
  if c.toNat=117 then pairB r else none:=rfl
 generalize c::r=s at *;generalize pairB r=pb at *;generalize escU s=eb at *;have hc:=u8_lt c;have fin:∀{x:Option (Nat×Nat)} {S:St},eb=x->Ret (encEsc eb) (.ret (encEsc x)) S:=λh=>by rw[h];exact Ret.sta (sta_esc _)
 refine goW ?_;rw[hne];refine goW ?_;refine step_ruleO (sx_ixS (k:=0) rfl rfl hge) (goW ?_);by_cases e34:(c.toNat:Int)=34
 ·rw[eqI_true e34];refine goW ?_;refine step_ruleO (sx_ixS (k:=0) rfl rfl hge) (goW ?_);rw[wr64 (by omega) (by omega)];exact⟨_,rfl,fin (x:=some (c.toNat,1)) (by rw[he,if_pos (by omega)])⟩
 rw[eqI_false e34];refine goW ?_;by_cases e92:(c.toNat:Int)=92
 ·rw[eqI_true e92];refine goW ?_;refine step_ruleO (sx_ixS (k:=0) rfl rfl hge) (goW ?_);rw[wr64 (by omega) (by omega)];exact⟨_,rfl,fin (x:=some (c.toNat,1)) (by rw[he,if_pos (by omega)])⟩
 rw[eqI_false e92];refine goW ?_;by_cases e47:(c.toNat:Int)=47
 ·rw[eqI_true e47];refine goW ?_;refine step_ruleO (sx_ixS (k:=0) rfl rfl hge) (goW ?_);rw[wr64 (by omega) (by omega)];exact⟨_,rfl,fin (x:=some (c.toNat,1)) (by rw[he,if_pos (by omega)])⟩
 rw[eqI_false e47];refine goW ?_;by_cases e98:(c.toNat:Int)=98
 ·rw[eqI_true e98];refine goW ?_;exact⟨_,rfl,fin (x:=some (8,1)) (by rw[he,if_neg (by omega),if_pos (by omega)])⟩
 rw[eqI_false e98];refine goW ?_;by_cases e116:(c.toNat:Int)=116
 ·rw[eqI_true e116];refine goW ?_;exact⟨_,rfl,fin (x:=some (9,1)) (by rw[he,if_neg (by omega),if_neg (by omega),if_pos (by omega)])⟩
 rw[eqI_false e116];refine goW ?_;by_cases e110:(c.toNat:Int)=110
 ·rw[eqI_true e110];refine goW ?_;exact⟨_,rfl,fin (x:=some (10,1)) (by rw[he,if_neg (by omega),if_neg (by omega),if_neg (by omega),if_pos (by omega)])⟩
 rw[eqI_false e110];refine goW ?_;by_cases e102:(c.toNat:Int)=102
 ·rw[eqI_true e102];refine goW ?_;exact⟨_,rfl,fin (x:=some (12,1)) (by rw[he,if_neg (by omega),if_neg (by omega),if_neg (by omega),if_neg (by omega),if_pos (by omega)])⟩
 rw[eqI_false e102];refine goW ?_;by_cases e114:(c.toNat:Int)=114
 ·rw[eqI_true e114];refine goW ?_;exact⟨_,rfl,fin (x:=some (13,1)) (by rw[he,if_neg (by omega),if_neg (by omega),if_neg (by omega),if_neg (by omega),if_neg (by omega),if_pos (by omega)])⟩
 rw[eqI_false e114];refine goW ?_;by_cases e117:(c.toNat:Int)=117
 ·rw[eqI_true e117];have hfin:Ret (encEsc eb) (.ret (encEsc pb)) St.init:=fin (x:=pb) (by rw[he,if_neg (by omega),if_neg (by omega),if_neg (by omega),if_neg (by omega),if_neg (by omega),if_neg (by omega),if_pos (by omega)])
  clear fin he
  cases pb with
  | none =>
   refine goW ?_;refine call_pf hm (by rfl) hp (goW ?_);exact⟨_,rfl,hfin⟩
  | some p =>
   refine goW ?_;refine call_pf hm (by rfl) hp (goW ?_);exact⟨_,rfl,hfin⟩
 rw[eqI_false e117];refine goW ?_;exact⟨_,rfl,fin (x:=none) (by rw[he,if_neg (by omega),if_neg (by omega),if_neg (by omega),if_neg (by omega),if_neg (by omega),if_neg (by omega),if_neg (by omega)])⟩
end
end Go.Dn

namespace Go.Dn
open Go
theorem beqA_int {k:IntKind}{n:Int}:beqA (.int k n) (.int k n)=true:=by simp[beqA]
theorem stab_nil {gt:GT}{env:Env}{S:St}:stab gt [] env S=true:=rfl
theorem stab_at {gt:GT}{d:Nat}{op:DOp}{gd:Option (Nat×Bool)}{l:Option Nat}{xs:List (DI×Option Nat)}{env:Env}{S:St}{v:AV}(h0:isLoc op=false)(h1:conform l env op=true)(hg:Gd env gd)(h:stepO gt (some d) env S op=.done (putV (some d) v env) S)
  (h2:lk env d=some (.val v)) (hb:beqA v v=true) (r:stab gt xs env S=true):stab gt ((⟨some d,op,gd⟩,l)::xs) env S=true:=by
 have hs:stepD gt (⟨some d,op,gd⟩,l) env S=.done (putV (some d) v env) S:=by
  rw[<-h];cases gd with
  | none=>simp only[stepD,stepDO,h0,h1,cond_false,cond_true]
  | some p =>
   obtain⟨g,w⟩:=p;have hg:lk env g=some (.val (.bool w)):=hg;simp only[stepD,stepDO,h0,h1,cond_false,cond_true,hg,beq_self_eq_true]
 unfold stab at r ⊢;rw[List.all_cons,r,Bool.and_true];unfold stays;simp only[hs,h2];have:lk (putV (some d) v env) d=some (.val v):=lk_same _ _ _;rw[this];exact hb
end Go.Dn

namespace Go.Dn
open Go Go.Proofs.C1
set_option maxRecDepth 100000
attribute [local irreducible] afterS keepE
set_option maxHeartbeats 64000000
theorem orN {i a b:Nat}(hb:b<2 ^ i)(ha:a*2 ^ i+b<9223372036854775808) :
  IntKind.wrap .i64 ((BitVec.ofInt (IntKind.bits .i64) ((a*2 ^ i:Nat):Int) ||| BitVec.ofInt (IntKind.bits .i64) (b:Int)).toNat:Int)=((a*2 ^ i+b:Nat):Int):=by
 rw[show IntKind.bits .i64=64 from rfl,BitVec.ofInt_natCast,BitVec.ofInt_natCast,BitVec.toNat_or,BitVec.toNat_ofNat,BitVec.toNat_ofNat,Nat.mod_eq_of_lt (show a*2 ^ i<2 ^ 64 by omega),Nat.mod_eq_of_lt (show b<2 ^ 64 by omega)];have:=Nat.shiftLeft_add_eq_or_of_lt (i:=i) (b:=b) hb a;rw[Nat.shiftLeft_eq]at this;rw[<-this,wrap64 ha]
theorem and63i {x:Nat}(hx:x<9223372036854775808):IntKind.wrap .i64 ((BitVec.ofInt (IntKind.bits .i64) (x:Int) &&& BitVec.ofInt (IntKind.bits .i64) 63).toNat:Int)=((x % 64:Nat):Int):=by
 rw[show IntKind.bits .i64=64 from rfl,show (63:Int)=((63:Nat):Int) from rfl,BitVec.ofInt_natCast,BitVec.ofInt_natCast,BitVec.toNat_and,BitVec.toNat_ofNat,BitVec.toNat_ofNat,Nat.mod_eq_of_lt (show x<2 ^ 64 by omega),show (63:Nat) % 2 ^ 64=2 ^ 6-1 by decide,Nat.and_two_pow_sub_one_eq_mod,wrap64 (by omega)]
theorem fdivN (c d:Nat):((c:Int).fdiv (d:Int))=((c / d:Nat):Int):=by
 rw[Int.fdiv_eq_ediv_of_nonneg _ (by omega)];rfl
theorem wru8 {n:Nat}(h:n<256):wr .u8 (n:Int)=n:=by rw[wr_eq];exact wrap8 h
theorem u8N {n:Nat}(h:n<256):((UInt8.ofNat n).toNat:Int)=n:=by
 rw[UInt8.toNat_ofNat',Nat.mod_eq_of_lt h]
theorem shrN {c k:Nat}(hk:k<=18):(c:Int).fdiv (2 ^ min k (IntKind.bits .i64))=((c / 2 ^ k:Nat):Int):=by
 rw[show min k (IntKind.bits .i64)=k from Nat.min_eq_left (by show k<=64;omega),show ((2:Int) ^ k)=((2 ^ k:Nat):Int) by push_cast;rfl,fdivN]
theorem tailE {c k:Nat}(hc:c<1114112)(hk:k<=12):wr .u8 (IntKind.wrap .i64 ((BitVec.ofInt (IntKind.bits .i64) 128 ||| BitVec.ofInt (IntKind.bits .i64) (IntKind.wrap .i64 ((BitVec.ofInt (IntKind.bits .i64) ((c:Int).fdiv (2 ^ min k (IntKind.bits .i64))) &&& BitVec.ofInt (IntKind.bits .i64) 63).toNat:Int))).toNat:Int))=((UInt8.ofNat (128+c / 2 ^ k % 64)).toNat:Int):=by
 have hq:c / 2 ^ k<=c:=Nat.div_le_self _ _;rw[shrN (by omega),and63i (by omega),show (128:Int)=((2*2 ^ 6:Nat):Int) from rfl,orN (by omega) (by omega),wru8 (by omega),u8N (by omega)]
theorem headE {c h i k:Nat}(hc:c / 2 ^ k<2 ^ i)(hk:k<=18)(hh:h*2 ^ i+c / 2 ^ k<256){H:Int}(hH:H=((h*2 ^ i:Nat):Int)):wr .u8 (IntKind.wrap .i64 ((BitVec.ofInt (IntKind.bits .i64) H ||| BitVec.ofInt (IntKind.bits .i64) ((c:Int).fdiv (2 ^ min k (IntKind.bits .i64)))).toNat:Int))=((UInt8.ofNat (h*2 ^ i+c / 2 ^ k)).toNat:Int):=by
 rw[shrN hk,hH,orN hc (by omega),wru8 hh,u8N hh]
section
variable {gt:GT}{C:CallT}
theorem sx_ldBs {d:Option Nat}{env:Env}{S:St}{a:DOpd}{id off sz:Nat}{g:Bool}{ty:TypeId}{cs:List AV}{v:AV}(hb:lk S.boxes id=some (some (ty,cs)))(ha:loc env a=some (.hp id off))(hm:(cut cs off sz).bind (mkv g)=some v) :
  stepO gt d env S (.ld g sz a)=.done (putV d v env) S:=by
 simp only[stepO,ha,ldL,ldC,hb];cases hc:cut cs off sz with
 | none=>rw[hc]at hm;cases hm
 | some c=>rw[hc]at hm;simp only[Option.bind_some]at hm;simp only[hm,SR.val]
theorem tail_wp {S:St}{id c k:Nat}{ty:TypeId}(hb:lk S.boxes id=some (some (ty,[.int .i64 c])))(hc:c<1114112)(hk:k<=12) :
  wpF gt C F200 [.int .i64 k,.ptr id 0] S λr S'=>r=.ret (.int .u8 (UInt8.ofNat (128+c / 2 ^ k % 64)).toNat)/\S'=S:=by
 refine⟨rfl,?_⟩;refine goW ?_;refine step_ruleO (sx_ldBs (v:=.int .i64 c) hb rfl rfl) (goW ?_);rw[show ((k:Int)).toNat=k from Int.toNat_natCast k,tailE hc hk];exact⟨_,rfl,rfl,rfl⟩
theorem appV_kp {S S2:St}{agg:Bool}{ty:TypeId}{es bytes:Nat}{x y v:AV}(hv:appV S agg ty es bytes x y=some (v,S2)):S2.mv=S.mv/\S2.dl=S.dl:=by
 unfold appV at hv;simp only[cond_eq_ite]at hv
 (repeat' split at hv)<;>first | (cases hv;exact⟨rfl,rfl⟩) | (cases hv)
theorem app_kp {d:Option Nat}{env env':Env}{S S':St}{agg:Bool}{ty:TypeId}{es bytes:Nat}{x y:DOpd}(h:stepO gt d env S (.app agg ty es bytes x y)=.done env' S'):S'.mv=S.mv/\S'.dl=S.dl:=by
 simp only[stepO]at h;split at h
 ·split at h
  ·rename_i v S2 hv;simp only[SR.done.injEq]at h;obtain⟨_,rfl⟩:=h;exact appV_kp hv
  ·cases h
 ·cases h
theorem r_appK {d:Option Nat}{env:Env}{S:St}{R:List Rs}{agg:Bool}{ty:TypeId}{es bytes:Nat}{x y:DOpd}{o:SI}{xs ys:List AV}{yv:AV}{gd:Option (Nat×Bool)}{K:Env->St->Prop}{Q:Ex->Env->St->Prop}(h:Hs S R)(i:Nat)(hi:R[i]? = some (.gr ty o xs))
  (hg:Gd env gd) (hx:opd env x=some (.sl es o xs)) (hy:opd env y=some yv) (hys:srcE S agg es yv=some ys)
  (hb:(xs.length+ys.length)*bytes<=140737488355328) (hb2:xs.length+ys.length<=140737488355328) (hb3:bytes<=1048576) (hes:0<es) (hok:(ys.flatMap AV.cells).all ok1=true)
  (k:∀o' S',Hs S' (R.set i (.gr ty o' (xs++ys)))->S'.mv=S.mv/\S'.dl=S.dl->K (putV d (.sl es o' (xs++ys)) env) S'):afterS C d env S K Q (stepI gt ⟨d,.app agg ty es bytes x y,gd⟩ env S):=by
 obtain⟨o',S',e,h'⟩:=hs_app (gt:=gt) (d:=d) h i hi hx hy hys hb hb2 hb3 hes hok;exact st_any hg e (k o' S' h' (app_kp e))
theorem r_appDK {l:Option Nat}{d:Option Nat}{env:Env}{S:St}{R:List Rs}{agg:Bool}{ty:TypeId}{es bytes:Nat}{x y:DOpd}{o:SI}{xs ys:List AV}{yv:AV}{gd:Option (Nat×Bool)}{K:Env->St->Prop}{Q:Ex->Env->St->Prop}(h:Hs S R)(i:Nat)(hi:R[i]? = some (.gr ty o xs))
  (hg:Gd env gd) (hx:opd env x=some (.sl es o xs)) (hy:opd env y=some yv) (hys:srcE S agg es yv=some ys)
  (hb:(xs.length+ys.length)*bytes<=140737488355328) (hb2:xs.length+ys.length<=140737488355328) (hb3:bytes<=1048576) (hes:0<es) (hok:(ys.flatMap AV.cells).all ok1=true)
  (k:∀o' S',Hs S' (R.set i (.gr ty o' (xs++ys)))->S'.mv=S.mv/\S'.dl=S.dl->K (putV d (.sl es o' (xs++ys)) env) S'):afterS C d env S K Q (stepD gt (⟨d,.app agg ty es bytes x y,gd⟩,l) env S):=by
 obtain⟨o',S',e,h'⟩:=hs_app (gt:=gt) (d:=d) h i hi hx hy hys hb hb2 hb3 hes hok;exact st_anyD hg rfl rfl e (k o' S' h' (app_kp e))
theorem putU_wp (hm:MonoC C){S:St}{R:List Rs}{i c:Nat}{o:SI}{xs:List AV}(hR:Hs S R)(hi:R[i]? = some (.gr 5 o xs))(hc:c<1114112)(hl:xs.length<1099511627776)
  (ht:∀(S:St) (id k:Nat) (ty:TypeId),k<=12->lk S.boxes id=some (some (ty,[.int .i64 c]))->C 200 [.int .i64 k,.ptr id 0] S λr S'=>r=.ret (.int .u8 (UInt8.ofNat (128+c / 2 ^ k % 64)).toNat)/\S'=S) :
  wpF gt C F175 [.sl 1 o xs,.int .i64 c] S λr S'=>∃o',r=.ret (.sl 1 o' (xs++ofBytes (encC c)))/\Hs S' (R.set i (.gr 5 o' (xs++ofBytes (encC c))))/\S'.mv=S.mv/\S'.dl=S.dl:=by
 have hil:i<R.length:=by
  rcases Nat.lt_or_ge i R.length with h | h
  ·exact h
  ·rw[List.getElem?_eq_none h]at hi;cases hi
 have hB:=hR.newBox 3 [.int .i64 c];have hbx:lk ((S.nb,some (3,[AV.int .i64 c]))::S.boxes) S.nb=some (some (3,[.int .i64 c])):=lk_same _ _ _;have hi2:(R++[Rs.bx S.nb 3 [.int .i64 c]])[i]? = some (.gr 5 o xs):=by rw[List.getElem?_append_left hil];exact hi
 have t0:=ht { S with nb:=S.nb+1,boxes:=(S.nb,some (3,[AV.int .i64 c]))::S.boxes } S.nb 0 3 (by omega) hbx;have t6:=ht { S with nb:=S.nb+1,boxes:=(S.nb,some (3,[AV.int .i64 c]))::S.boxes } S.nb 6 3 (by omega) hbx;have t12:=ht { S with nb:=S.nb+1,boxes:=(S.nb,some (3,[AV.int .i64 c]))::S.boxes } S.nb 12 3 (by omega) hbx;have fin:∀{o':SI} {S':St} {ys:List AV},ys=ofBytes (encC c)->Hs S' ((R++[Rs.bx S.nb 3 [.int .i64 c]]).set i (.gr 5 o' (xs++ys)))->(S'.mv=S.mv/\S'.dl=S.dl)->∃o2,Res.ret (.sl 1 o' (xs++ys))=.ret (.sl 1 o2 (xs++ofBytes (encC c)))/\Hs S' (R.set i (.gr 5 o2 (xs++ofBytes (encC c))))/\S'.mv=S.mv/\S'.dl=S.dl:=λ{o' S' ys} e h hk=>by
  subst e;rw[List.set_append_left _ _ hil]at h;exact⟨o',rfl,h.less (λx=>x) (λ_ _ _ _ e=>e) (λx hx=>by rw[List.getElem?_append_left hx]),hk⟩
 refine⟨rfl,?_⟩;refine goW ?_;refine step_ruleO (sx_ldBs (v:=.int .i64 c) hbx rfl rfl) (goW ?_);by_cases c1:(c:Int)<128
 ·rw[dT c1];refine goW ?_;refine step_ruleO (sx_ldBs (v:=.int .i64 c) hbx rfl rfl) (goW ?_);rw[wru8 (by omega)];obtain⟨hB2,hsrc⟩:=hB.bldT 5 1;refine r_appK hB2 i hi2 trivial rfl rfl (hsrc _ _ _) (by simp;omega) (by simp;omega) (by decide) (by decide) rfl ?_;intro o2 S2 hR2 hkp;refine goW ?_;exact⟨_,rfl,fin (by unfold encC;rw[if_pos (by omega)];simp[ofBytes,Nat.mod_eq_of_lt (show c<256 by omega)]) hR2 hkp⟩
 rw[dF c1];refine goW ?_;refine step_ruleO (sx_ldBs (v:=.int .i64 c) hbx rfl rfl) (goW ?_);by_cases c2:(c:Int)<2048
 ·rw[dT c2];refine goW ?_;refine step_ruleDO rfl rfl (sx_ldBs (v:=.int .i64 c) hbx rfl rfl) (goW ?_);rw[show Int.toNat 6=6 from rfl,headE (c:=c) (H:=192) (h:=3) (i:=6) (k:=6) (by omega) (by omega) (by omega) rfl];refine call_ruleD (by rfl) (hm _ _ _ _ _ t0 ?_);rintro r S2 ⟨rfl,hS⟩;subst hS;refine⟨stab_at rfl rfl trivial (sx_ldBs (v:=.int .i64 c) hbx rfl rfl) rfl beqA_int stab_nil,?_⟩;refine goW ?_;refine r_appDK hB i hi2 trivial rfl rfl rfl (by simp;omega) (by simp;omega) (by decide) (by decide) rfl ?_;intro o2 S2 hR2 hkp;refine goW ?_;exact⟨_,rfl,fin (by unfold encC;rw[if_neg (by omega),if_pos (by omega)];simp[ofBytes]) hR2 hkp⟩
 rw[dF c2];generalize hK:(65536:Int)=K;refine goW ?_;refine step_ruleO (sx_ldBs (v:=.int .i64 c) hbx rfl rfl) (goW ?_);by_cases c3:(c:Int)<K
 ·rw[dT c3];refine goW ?_;refine step_ruleDO rfl rfl (sx_ldBs (v:=.int .i64 c) hbx rfl rfl) (goW ?_);rw[show Int.toNat 12=12 from rfl,headE (c:=c) (H:=224) (h:=7) (i:=5) (k:=12) (by omega) (by omega) (by omega) rfl];refine call_ruleD (by rfl) (hm _ _ _ _ _ t6 ?_);rintro r S2 ⟨rfl,hS⟩;subst hS;refine⟨stab_at rfl rfl trivial (sx_ldBs (v:=.int .i64 c) hbx rfl rfl) rfl beqA_int stab_nil,?_⟩;refine goW ?_;refine call_ruleD (by rfl) (hm _ _ _ _ _ t0 ?_);rintro r S2 ⟨rfl,hS⟩;subst hS;refine⟨stab_at rfl rfl trivial (sx_ldBs (v:=.int .i64 c) hbx rfl rfl) rfl beqA_int stab_nil,?_⟩;refine goW ?_;refine r_appDK hB i hi2 trivial rfl rfl rfl (by simp;omega) (by simp;omega) (by decide) (by decide) rfl ?_;intro o2 S2 hR2 hkp;refine goW ?_;exact⟨_,rfl,fin (by unfold encC;rw[if_neg (by omega),if_neg (by omega),if_pos (by omega)];simp[ofBytes]) hR2 hkp⟩
 rw[dF c3];refine goW ?_;refine step_ruleDO rfl rfl (sx_ldBs (v:=.int .i64 c) hbx rfl rfl) (goW ?_);rw[show Int.toNat 18=18 from rfl,headE (c:=c) (H:=240) (h:=15) (i:=4) (k:=18) (by omega) (by omega) (by omega) rfl];refine call_ruleD (by rfl) (hm _ _ _ _ _ t12 ?_);rintro r S2 ⟨rfl,hS⟩;subst hS;refine⟨stab_at rfl rfl trivial (sx_ldBs (v:=.int .i64 c) hbx rfl rfl) rfl beqA_int stab_nil,?_⟩;refine goW ?_;refine call_ruleD (by rfl) (hm _ _ _ _ _ t6 ?_);rintro r S2 ⟨rfl,hS⟩;subst hS;refine⟨stab_at rfl rfl trivial (sx_ldBs (v:=.int .i64 c) hbx rfl rfl) rfl beqA_int stab_nil,?_⟩;refine goW ?_;refine call_ruleD (by rfl) (hm _ _ _ _ _ t0 ?_);rintro r S2 ⟨rfl,hS⟩;subst hS;refine⟨stab_at rfl rfl trivial (sx_ldBs (v:=.int .i64 c) hbx rfl rfl) rfl beqA_int stab_nil,?_⟩;refine goW ?_;refine r_appDK hB i hi2 trivial rfl rfl rfl (by simp;omega) (by simp;omega) (by decide) (by decide) rfl ?_;intro o2 S2 hR2 hkp;refine goW ?_;exact⟨_,rfl,fin (by unfold encC;rw[if_neg (by omega),if_neg (by omega),if_neg (by omega)];simp[ofBytes]) hR2 hkp⟩
end
end Go.Dn
