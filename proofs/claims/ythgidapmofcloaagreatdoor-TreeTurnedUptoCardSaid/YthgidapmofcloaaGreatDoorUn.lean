/- The code is the program's,printed by a program (Gen). errors.As and errors.Is at the targets that 'refused' hands them ('**text.Refusal', 'api.Errno'), walked after the worked proofs of toyas and sentry; then as contracts over the abstract store. errors.As and errors.Is as contracts over the abstract store. What the listed variables give: 'errors.errorType' holds the handle of the type 'error'; a world that meets the condition; the law without arguments, run by the kernel. Functions of the library by the contracts of the kit's shelf, as pure functions over the abstract store. The functions that laws about trees reach, as contracts, each by its code. Bytes as lists. Texts of characters: the reference's Runes and Valid. Trees: the reference's Shaped is the program's formed. Trees: the reference's Depth and Right; the law TreeRights, walked. Noughts cut off at both ends, in either order. Numbers: the reference's Digits and Decimal. Numbers: the reference's run; Split, from its end: the digits without noughts, the exponent. Numbers: the reference's Split: the exponent's number. Numbers: the reference's Split: the exponent's digits. Numbers: the reference's Split: its pieces. Numbers: the reference's Split is the program's. Numbers: the reference's Split is the program's: from its beginning. Numbers: the reference's Split, Join and Normal are the program's. Numbers: the reference's Join and Normal are the program's. Times: the reference's digits and dates. Times: the reference's dates are the program's. Times: the reference's times of a day are the program's. Times: the reference's Time, walked. Times: the reference's Time is the program's. The reference's functions that laws about trees reach, as contracts, each by its code. Sorting: what a stable sort by blocks and merges in place does, as plain lists. An array of numbers that is one's own, read and written in place. Sorting in place: ranges swapped, blocks turned round. -/
import Derived.Test.YthgidapmofcloaaGreatDoorProg
import Derived.WalkKit
import Derived.LaidEql
import Derived.Stop.Asserts
import Derived.RowKitTokens
import Derived.Lib.IfaceEq
import Derived.Test.YthgidapmofcloaaGreatDoorTie
import Derived.Test.YthgidapmofcloaaGreatDoorCards
import Derived.ProofKit
import Derived.LaidMore
import Derived.LaidHandle
import Derived.Lib.LaidTab
import Derived.Stop.LaidErr
import Derived.OpenShut
import Derived.Stop.Joined
import Derived.Lay
import Derived.SevenTiedAt
import Derived.Lib.SmallJoins
import Derived.Lib.AppendIntMem
import Derived.Test.YthgidapmofcloaaGreatDoorUm
set_option linter.unusedSimpArgs false
set_option linter.unusedVariables false
namespace Go.Proofs.C1
open Go Go.Dn
set_option maxRecDepth 100000
noncomputable section
abbrev pF (n:Note) (f:Func):DF:=(prepF Tryz.prog n f).getD ⟨0,.ret,[]⟩
abbrev N3:Note:=⟨[1,4,6,8,10,12],[(0,[]),(1,[1]),(2,[1,2,3]),(3,[46]),(4,[0]),(5,[4,5]),(6,[79]),(7,[0]),(8,[105]),(9,[0]),(10,[6,7]),(11,[6,7,9]),(12,[6,7,9,11]),(13,[3,6,7,9,11,12]),(14,[0])],[(14,[none,none,none,none,none,none,none,none,none,none,none,none,none,none,none,none,none,none,none,none,none,none,(some 6),(some 6),none,none,none,none,none,none,none,none,none,none,none,none,none,none,none,none,none,none,(some 12),none,none,none,none])]⟩
def F3:DF:=pF N3 Tryz.f3
theorem F3_ok:prepF Tryz.prog N3 Tryz.f3=some F3:=by kernel_rfl
theorem F3_fn:FnOK2 Tryz.prog 3 (.pl F3):=.pl Tryz.func3 (by kernel_rfl) F3_ok
theorem F13_ok : prepF Tryz.prog ⟨[2,5],[(0,[1,2]),(1,[1,2,17]),(2,[4]),(3,[2,5]),(4,[2,5,6,7]),(5,[2,5,6,7,8,9]),(6,[4])],[(6,[(some 2),(some 5),none,none,(some 2),(some 5),none,none,none,none,none,none,none,none,none,none,none,none,none,none,(some 2),none,(some 5),none,none,none,none,(some 2),none,(some 5),none,none,none,none,none,none,none])]⟩ Tryz.f13 = some F13 := by kernel_rfl
theorem F13_fn:FnOK2 Tryz.prog 13 (.pl F13):=.pl Tryz.func13 (by kernel_rfl) F13_ok
theorem F15_ok : prepF Tryz.prog ⟨[1],[(0,[1]),(1,[1,4]),(2,[1,4,9]),(3,[2,3]),(4,[1,5]),(5,[5]),(6,[5,20]),(7,[2,3]),(8,[2,3])],[]⟩ Tryz.f15 = some F15 := by kernel_rfl
theorem F15_fn:FnOK2 Tryz.prog 15 (.pl F15):=.pl Tryz.func15 (by kernel_rfl) F15_ok
theorem F16_ok : prepF Tryz.prog ⟨[1],[(0,[1]),(1,[1,3]),(2,[2]),(3,[1,7]),(4,[2]),(5,[11]),(6,[2]),(7,[2])],[]⟩ Tryz.f16 = some F16 := by kernel_rfl
theorem F16_fn:FnOK2 Tryz.prog 16 (.pl F16):=.pl Tryz.func16 (by kernel_rfl) F16_ok
theorem F17_ok : prepF Tryz.prog ⟨[1,5],[(0,[1]),(1,[1,3]),(2,[3,7,8,9]),(3,[3,7,8,9,10]),(4,[3,5,7,8,9]),(5,[3,7,8,9]),(6,[3,7,8,9]),(7,[2]),(1000000,[3,7,8,9])],[]⟩ Tryz.f17 = some F17 := by kernel_rfl
theorem F17_fn:FnOK2 Tryz.prog 17 (.pl F17):=.pl Tryz.func17 (by kernel_rfl) F17_ok
theorem F18_ok : prepF Tryz.prog ⟨[1,5],[(0,[1]),(1,[1,3]),(2,[3,7,8,9]),(3,[3,7,8,9,10]),(4,[3,5,7,8,9]),(5,[3,7,8,9]),(6,[3,7,8,9]),(7,[2]),(1000000,[3,7,8,9])],[]⟩ Tryz.f18 = some F18 := by kernel_rfl
theorem F18_fn:FnOK2 Tryz.prog 18 (.pl F18):=.pl Tryz.func18 (by kernel_rfl) F18_ok
abbrev N19:Note:=⟨[2],[(0,[1,2]),(1,[1,2,4]),(2,[2,4,5]),(3,[2,4,5,10]),(4,[2,3]),(5,[2,3])],[]⟩
def F19:DF:=pF N19 Tryz.f19
theorem F19_ok:prepF Tryz.prog N19 Tryz.f19=some F19:=by kernel_rfl
theorem F19_fn:FnOK2 Tryz.prog 19 (.pl F19):=.pl Tryz.func19 (by kernel_rfl) F19_ok
abbrev N20:Note:=⟨[7],[(0,[0,1,2]),(1,[1,2,7,8]),(2,[6])],[]⟩
def F20:DF:=pF N20 Tryz.f20
theorem F20_ok:prepF Tryz.prog N20 Tryz.f20=some F20:=by kernel_rfl
theorem F20_fn:FnOK2 Tryz.prog 20 (.pl F20):=.pl Tryz.func20 (by kernel_rfl) F20_ok
theorem F21_ok : prepF Tryz.prog ⟨[2,4,7],[(0,[1,2,4]),(1,[2,4,9,10,11]),(2,[2,4,9,10,11,12]),(3,[2,4,7,9,10,11]),(4,[2,4,8,9,10,11]),(5,[2,4,8,9,10,11,19]),(6,[4,5]),(7,[2,4,9,10,11]),(8,[2,4,9,10,11]),(9,[4,5]),(1000000,[2,4,9,10,11])],[]⟩ Tryz.f21 = some F21 := by kernel_rfl
theorem F21_fn:FnOK2 Tryz.prog 21 (.pl F21):=.pl Tryz.func21 (by kernel_rfl) F21_ok
abbrev N22:Note:=⟨[2,3],[(0,[0,2]),(1,[2,3]),(2,[2])],[]⟩
def F22:DF:=pF N22 Tryz.f22
theorem F22_ok:prepF Tryz.prog N22 Tryz.f22=some F22:=by kernel_rfl
theorem F22_fn:FnOK2 Tryz.prog 22 (.pl F22):=.pl Tryz.func22 (by kernel_rfl) F22_ok
theorem F23_ok : prepF Tryz.prog ⟨[3,4,6,8],[(0,[2,3,4,6]),(1,[6,8,9]),(2,[6,8,18]),(3,[6,7]),(4,[6,7])],[]⟩ Tryz.f23 = some F23 := by kernel_rfl
theorem F23_fn:FnOK2 Tryz.prog 23 (.pl F23):=.pl Tryz.func23 (by kernel_rfl) F23_ok
theorem F24_ok : prepF Tryz.prog ⟨[2,3],[(0,[2,3]),(1,[2,3,12]),(2,[4]),(3,[4])],[(3,[(some 2),none,(some 3),none,none,none])]⟩ Tryz.f24 = some F24 := by kernel_rfl
theorem F24_fn:FnOK2 Tryz.prog 24 (.pl F24):=.pl Tryz.func24 (by kernel_rfl) F24_ok
theorem F25_ok : prepF Tryz.prog ⟨[2,3],[(0,[2,3]),(1,[2,3,9]),(2,[14]),(3,[4]),(4,[4]),(5,[4])],[(5,[(some 2),none,(some 3),none,none,none])]⟩ Tryz.f25 = some F25 := by kernel_rfl
theorem F25_fn:FnOK2 Tryz.prog 25 (.pl F25):=.pl Tryz.func25 (by kernel_rfl) F25_ok
theorem F26_ok : prepF Tryz.prog ⟨[1],[(0,[1]),(1,[2])],[]⟩ Tryz.f26 = some F26 := by kernel_rfl
theorem F26_fn:FnOK2 Tryz.prog 26 (.pl F26):=.pl Tryz.func26 (by kernel_rfl) F26_ok
theorem F28_ok : prepF Tryz.prog ⟨[2],[(0,[1,2]),(1,[1,2,5]),(2,[1,2,5,6]),(3,[1,2,5,6,16]),(4,[1,2,5,6]),(5,[1,2,5,6]),(6,[4]),(1000000,[1,2,5,6])],[]⟩ Tryz.f28 = some F28 := by kernel_rfl
theorem F28_fn:FnOK2 Tryz.prog 28 (.pl F28):=.pl Tryz.func28 (by kernel_rfl) F28_ok
theorem F31_ok : prepF Tryz.prog ⟨[1,2,3,5],[(0,[1,2]),(1,[1,2,3]),(2,[1,2,3]),(3,[2,3,18,19,20]),(4,[2,3,18,19,20,21]),(5,[2,3,5,18,19,20]),(6,[2,3,18,19,20]),(7,[2,3,18,19,20]),(8,[2]),(1000000,[2,3,18,19,20])],[(6,[(some 3),(some 3),(some 5),none,none,none,(some 3),(some 3)])]⟩ Tryz.f31 = some F31 := by kernel_rfl
theorem F31_fn:FnOK2 Tryz.prog 31 (.pl F31):=.pl Tryz.func31 (by kernel_rfl) F31_ok
theorem F32_ok : prepF Tryz.prog ⟨[2,3],[(0,[2,3]),(1,[2,3,36]),(2,[4]),(3,[2,3,5]),(4,[2,3,5,41]),(5,[2,3,5]),(6,[2,3,5,54]),(7,[4]),(8,[2,3,6]),(9,[2,3,6,59]),(10,[2,3,6]),(11,[2,3,6,73]),(12,[4]),(13,[4]),(1000000,[2,3,5]),(1000002,[2,3,6])],[(11,[(some 2),(some 2),none,none,none,(some 3),(some 3),none,none,none,none,none]),(6,[(some 2),(some 2),none,none,none,(some 3),(some 3),none,none,none,none])]⟩ Tryz.f32 = some F32 := by kernel_rfl
theorem F32_fn:FnOK2 Tryz.prog 32 (.pl F32):=.pl Tryz.func32 (by kernel_rfl) F32_ok
theorem F34_ok : prepF Tryz.prog ⟨[1,2,3,5],[(0,[1,2]),(1,[1,2,3]),(2,[1,2,3,24]),(3,[1,2,3]),(4,[2,3,32,33,34]),(5,[2,3,32,33,34,35]),(6,[2,3,5,32,33,34]),(7,[2,3,32,33,34]),(8,[2,3,32,33,34]),(9,[2]),(10,[1,2,3,49,50,51]),(11,[1,2,3,49,50,51,52]),(12,[1,2,3,7,49,50,51]),(13,[1,2,3,7,49,50,51]),(14,[1,2,3,49,50,51]),(15,[1,2,3,49,50,51]),(16,[2]),(1000000,[2,3,32,33,34]),(1000002,[1,2,3,49,50,51])],[(14,[(some 3),(some 3),(some 1),(some 1),none,none,none,none,none,none,(some 3),(some 3)]),(13,[(some 3),(some 3),(some 1),(some 1),none,none,none,none,none,(some 3),(some 3)]),(7,[(some 3),(some 3),(some 5),none,none,none,(some 3),(some 3)])]⟩ Tryz.f34 = some F34 := by kernel_rfl
theorem F34_fn:FnOK2 Tryz.prog 34 (.pl F34):=.pl Tryz.func34 (by kernel_rfl) F34_ok
theorem F37_ok : prepF Tryz.prog ⟨[1,2,3],[(0,[1,2]),(1,[1,2,3]),(2,[1,2,3]),(3,[1,2,3,4]),(4,[1,2,3,4,20]),(5,[1,2,3,4]),(6,[1,2,3,4]),(7,[2]),(1000000,[1,2,3,4])],[(6,[(some 3),(some 3),(some 1),(some 1),none,none,none,none,none,none,(some 3),(some 3)])]⟩ Tryz.f37 = some F37 := by kernel_rfl
theorem F37_fn:FnOK2 Tryz.prog 37 (.pl F37):=.pl Tryz.func37 (by kernel_rfl) F37_ok
theorem F39_ok : prepF Tryz.prog ⟨[],[(0,[0,1,2]),(1,[0,1,2]),(2,[0,1,2,14]),(3,[0,1]),(4,[6])],[]⟩ Tryz.f39 = some F39 := by kernel_rfl
theorem F39_fn:FnOK2 Tryz.prog 39 (.pl F39):=.pl Tryz.func39 (by kernel_rfl) F39_ok
abbrev N41:Note:=⟨[3],[(0,[0,3]),(1,[0,3,8]),(2,[4]),(3,[0,3,5]),(4,[4])],[(4,[none,none,none,none,none,none,none,none,none,none,none,none,none,none,none,none,none,(some 3),(some 3),none,none,none,none,none,none,none,(some 3),(some 3),none,none,none,none,none,none,none,none,none,none,none,none])]⟩
def F41:DF:=pF N41 Tryz.f41
theorem F41_ok:prepF Tryz.prog N41 Tryz.f41=some F41:=by kernel_rfl
theorem F41_fn:FnOK2 Tryz.prog 41 (.pl F41):=.pl Tryz.func41 (by kernel_rfl) F41_ok
theorem F46_ok : prepF Tryz.prog ⟨[2,4,5],[(0,[1,2,4]),(1,[1,2,4,5]),(2,[1,2,4,5,6]),(3,[1,2,4,5,6,17]),(4,[1,2,4,5,6]),(5,[1,2,4,5,6]),(6,[1,4,5,7]),(7,[1,4,5,7,8]),(8,[1,4,5,7,8,52]),(9,[1,4,5,7,8]),(10,[1,4,5,7,8,9]),(11,[1,4,5,7,8,9,10]),(12,[1,4,5,7,8,9,10]),(13,[1,4,5,7,8]),(14,[4]),(1000000,[1,2,4,5,6]),(1000002,[1,4,5,7,8])],[(13,[(some 5),(some 5),none,(some 5),(some 5),none,(some 5),(some 5),none,none,none,(some 5),(some 5),none,none,none,none,none,none,none]),(12,[(some 5),(some 5),none,(some 5),(some 5),none,(some 5),(some 5),none,none,none,(some 5),(some 5),none,none,none,none,none,none,none]),(5,[(some 5),(some 5),none,(some 2),(some 2),none,none,none,none,none,none,none])]⟩ Tryz.f46 = some F46 := by kernel_rfl
theorem F46_fn:FnOK2 Tryz.prog 46 (.pl F46):=.pl Tryz.func46 (by kernel_rfl) F46_ok
theorem F47_ok : prepF Tryz.prog ⟨[3,7],[(0,[0,3]),(1,[0,3,13]),(2,[0,3,13,14]),(3,[]),(4,[0,3,13,18]),(5,[0,3,13,18]),(6,[]),(7,[0,3,13,25]),(8,[0,4]),(9,[]),(10,[0,3,13,36]),(11,[]),(12,[0,3,13,43]),(13,[0,3]),(14,[0,48,49,50]),(15,[0,48,49,50,51]),(16,[0,6,7,48,49,50]),(17,[0,7,48,49,50,56]),(18,[0,7,48,49,50]),(19,[0,48,49,50]),(20,[0,48,49,50]),(21,[]),(22,[0,3,65]),(23,[0,3]),(24,[0,3,71,72,73]),(25,[0,3,71,72,73,74]),(26,[0,3,8,9,71,72,73]),(27,[0,3,9,71,72,73,79]),(28,[0,3,9,71,72,73]),(29,[0,3,9,10,71,72,73]),(30,[0,3,9,71,72,73]),(31,[0,3,71,72,73]),(32,[0,3,71,72,73]),(33,[]),(1000001,[0,48,49,50]),(1000003,[0,3,71,72,73])],[]⟩ Tryz.f47 = some F47 := by kernel_rfl
theorem F47_fn:FnOK2 Tryz.prog 47 (.pl F47):=.pl Tryz.func47 (by kernel_rfl) F47_ok
theorem F48_ok : prepF Tryz.prog ⟨[],[(0,[0]),(1,[2])],[]⟩ Tryz.f48 = some F48 := by kernel_rfl
theorem F48_fn:FnOK2 Tryz.prog 48 (.pl F48):=.pl Tryz.func48 (by kernel_rfl) F48_ok
theorem F49_ok : prepF Tryz.prog ⟨[],[(0,[0]),(1,[2])],[]⟩ Tryz.f49 = some F49 := by kernel_rfl
theorem F49_fn:FnOK2 Tryz.prog 49 (.pl F49):=.pl Tryz.func49 (by kernel_rfl) F49_ok
theorem F50_ok : prepF Tryz.prog ⟨[1,4],[(0,[1]),(1,[1,9,10,11]),(2,[1,9,10,11,12]),(3,[1,4,9,10,11]),(4,[1,9,10,11,17]),(5,[2]),(6,[1,9,10,11]),(7,[1,5]),(8,[1,5,30]),(9,[1,5,30,31]),(10,[2]),(11,[1,5,30,39]),(12,[2]),(13,[1,5,30,52]),(14,[1,5,6,7]),(15,[2]),(16,[1,5,30,71]),(17,[2]),(18,[1,5,30,79]),(19,[2]),(20,[1,30,87]),(21,[2]),(22,[1,98]),(23,[2]),(24,[2]),(1000000,[1,9,10,11])],[]⟩ Tryz.f50 = some F50 := by kernel_rfl
theorem F50_fn:FnOK2 Tryz.prog 50 (.pl F50):=.pl Tryz.func50 (by kernel_rfl) F50_ok
theorem F51_ok : prepD Tryz.prog ⟨[],[(0,[0,1,4]),(1,[0,1,4,8]),(2,[4]),(3,[0,1,4,5]),(4,[0,1,4,5,14]),(5,[4]),(6,[0,1,4]),(7,[4]),(8,[4])],[]⟩ Tryz.f51 = some F51 := by kernel_rfl
theorem F51_fn : FnOK2 Tryz.prog 51 (.df F51) := .df Tryz.func51 (by kernel_rfl) F51_ok
abbrev N52:Note:=⟨[4],[(0,[1,2,4]),(1,[1,2,4]),(2,[2,4]),(3,[2,4]),(4,[4,20]),(5,[])],[(4,[(some 4),(some 4),none,none,none,none,none,none])]⟩
def F52:DF:=pF N52 Tryz.f52
theorem F52_ok:prepF Tryz.prog N52 Tryz.f52=some F52:=by kernel_rfl
theorem F52_fn:FnOK2 Tryz.prog 52 (.pl F52):=.pl Tryz.func52 (by kernel_rfl) F52_ok
abbrev N53:Note:=⟨[1],[(0,[1]),(1,[])],[]⟩
def F53:DF:=pF N53 Tryz.f53
theorem F53_ok:prepF Tryz.prog N53 Tryz.f53=some F53:=by kernel_rfl
theorem F53_fn:FnOK2 Tryz.prog 53 (.pl F53):=.pl Tryz.func53 (by kernel_rfl) F53_ok
abbrev N54:Note:=⟨[2,4,7],[(0,[1,2,4]),(1,[1,2,4,5]),(2,[1,2,4,5,13]),(3,[2,4]),(4,[4]),(5,[1,2,4,5,26]),(6,[1,2,4]),(7,[4]),(8,[1,2,4,5,38]),(9,[1,2,4]),(10,[4]),(11,[1,2,4,5,50]),(12,[1,2,4,5]),(13,[1,2,4,5,6]),(14,[1,2,4,5,6,67]),(15,[1,2,4,5,6]),(16,[4,6]),(17,[4]),(18,[1,2,4,5,7]),(19,[4,7]),(20,[4])],[]⟩
def F54:DF:=pF N54 Tryz.f54
theorem F54_ok:prepF Tryz.prog N54 Tryz.f54=some F54:=by kernel_rfl
theorem F54_fn:FnOK2 Tryz.prog 54 (.pl F54):=.pl Tryz.func54 (by kernel_rfl) F54_ok
abbrev N55:Note:=⟨[],[(0,[0,11]),(1,[0]),(2,[])],[]⟩
def F55:DF:=pF N55 Tryz.f55
theorem F55_ok:prepF Tryz.prog N55 Tryz.f55=some F55:=by kernel_rfl
theorem F55_fn:FnOK2 Tryz.prog 55 (.pl F55):=.pl Tryz.func55 (by kernel_rfl) F55_ok
theorem F56_ok : prepF Tryz.prog ⟨[2,3],[(0,[2,3]),(1,[2,3,7]),(2,[2,3,7,8]),(3,[3,25]),(4,[4]),(5,[2,3,28]),(6,[2,3,5]),(7,[5,46]),(8,[4]),(9,[4])],[]⟩ Tryz.f56 = some F56 := by kernel_rfl
theorem F56_fn:FnOK2 Tryz.prog 56 (.pl F56):=.pl Tryz.func56 (by kernel_rfl) F56_ok
theorem F57_ok : prepF Tryz.prog ⟨[3,4,6,9,11,13],[(0,[2,3,4,6]),(1,[2,3,4,6,16]),(2,[6,7]),(3,[2,3,4,6,8]),(4,[2,3,4,6,8,25]),(5,[6,7]),(6,[3,6,8,9,10]),(7,[3,6,8,9,40]),(8,[6,7]),(9,[3,6,8,9,11]),(10,[3,6,8,9,11]),(11,[6,8,9,11,54,55,56]),(12,[6,8,9,11,54,55,56,57]),(13,[6,8,9,11,12,13,54,55,56]),(14,[6,8,9,11,13,54,55,56,63]),(15,[6,8,9,11,54,55,56]),(16,[6,8,9,11,54,55,56]),(17,[6,8,9,11,54,55,56]),(18,[6,7]),(1000000,[6,8,9,11,54,55,56])],[(16,[(some 11),(some 11),(some 13),none,none,none,(some 11),(some 11)]),(6,[(some 3),(some 3),none,none,none,(some 4),none,none,none,none,none,none,none,(some 9),none]),(3,[(some 3),none,none,none,none,none])]⟩ Tryz.f57 = some F57 := by kernel_rfl
theorem F57_fn:FnOK2 Tryz.prog 57 (.pl F57):=.pl Tryz.func57 (by kernel_rfl) F57_ok
theorem F58_ok : prepF Tryz.prog ⟨[2,3],[(0,[2,3]),(1,[4])],[]⟩ Tryz.f58 = some F58 := by kernel_rfl
theorem F58_fn:FnOK2 Tryz.prog 58 (.pl F58):=.pl Tryz.func58 (by kernel_rfl) F58_ok
theorem F59_ok : prepF Tryz.prog ⟨[2,3],[(0,[2,3]),(1,[2,3,15]),(2,[4]),(3,[2,3,24]),(4,[2,3,5,6]),(5,[2,3,5,34]),(6,[4]),(7,[2,3,7]),(8,[2,3,7,42]),(9,[4]),(10,[2,3,50,51]),(11,[2,3,50,51,52]),(12,[2,3,8,50,51]),(13,[2,3,8,50,51,65]),(14,[2,3,8,9,50,51]),(15,[2,3,8,9,50,51,78]),(16,[4]),(17,[2,3,10,50,51]),(18,[2,3,10,50,51,92]),(19,[4]),(20,[2,3,50,51]),(21,[4]),(1000000,[2,3,50,51])],[(17,[(some 2),(some 2),none,none,none,(some 3),(some 3),none,none,none,none,none]),(14,[(some 2),(some 2),none,none,none,(some 3),(some 3),none,none,none,none,none])]⟩ Tryz.f59 = some F59 := by kernel_rfl
theorem F59_fn:FnOK2 Tryz.prog 59 (.pl F59):=.pl Tryz.func59 (by kernel_rfl) F59_ok
theorem F64_ok : prepF Tryz.prog ⟨[],[(0,[1]),(1,[1,3]),(2,[1,3,9,10]),(3,[1,3,9,10,11]),(4,[1,3,4,9,10]),(5,[1,3,9,10]),(6,[1,3,9,10]),(7,[3]),(8,[2]),(1000000,[1,3,9,10])],[]⟩ Tryz.f64 = some F64 := by kernel_rfl
theorem F64_fn:FnOK2 Tryz.prog 64 (.pl F64):=.pl Tryz.func64 (by kernel_rfl) F64_ok
abbrev N75:Note:=⟨[1],[(0,[1]),(1,[2])],[]⟩
def F75:DF:=pF N75 Tryz.f75
theorem F75_ok:prepF Tryz.prog N75 Tryz.f75=some F75:=by kernel_rfl
theorem F75_fn:FnOK2 Tryz.prog 75 (.pl F75):=.pl Tryz.func75 (by kernel_rfl) F75_ok
theorem F79_ok : prepF Tryz.prog ⟨[],[(0,[0,1,8]),(1,[])],[]⟩ Tryz.f79 = some F79 := by kernel_rfl
theorem F79_fn:FnOK2 Tryz.prog 79 (.pl F79):=.pl Tryz.func79 (by kernel_rfl) F79_ok
theorem F80_ok : prepF Tryz.prog ⟨[],[(0,[0]),(1,[0,10]),(2,[2,3]),(3,[0,4]),(4,[0,4]),(5,[0,4,13,14]),(6,[0,4,13,14,15]),(7,[0,4,5,13,14]),(8,[0,4,6,13,14]),(9,[0,4,6,7,13,14]),(10,[0,4,13,14]),(11,[0,4,6,7,13,14,24]),(12,[0,4,7,13,14]),(13,[0,4,13,14]),(14,[0,4,6,13,14,30]),(15,[0,4,6,13,14]),(16,[0,4,6,13,14]),(17,[0,4,13,14]),(18,[0,4,13,14]),(19,[4]),(20,[2,3]),(1000000,[0,4,13,14])],[]⟩ Tryz.f80 = some F80 := by kernel_rfl
theorem F80_fn:FnOK2 Tryz.prog 80 (.pl F80):=.pl Tryz.func80 (by kernel_rfl) F80_ok
theorem F81_ok : prepF Tryz.prog ⟨[4],[(0,[0]),(1,[4,5]),(2,[4,5,12]),(3,[2,3]),(4,[2,3])],[]⟩ Tryz.f81 = some F81 := by kernel_rfl
theorem F81_fn:FnOK2 Tryz.prog 81 (.pl F81):=.pl Tryz.func81 (by kernel_rfl) F81_ok
theorem F82_ok : prepF Tryz.prog ⟨[],[(0,[0]),(1,[2])],[]⟩ Tryz.f82 = some F82 := by kernel_rfl
theorem F82_fn:FnOK2 Tryz.prog 82 (.pl F82):=.pl Tryz.func82 (by kernel_rfl) F82_ok
theorem F83_ok : prepF Tryz.prog ⟨[],[(0,[0]),(1,[0,11]),(2,[2]),(3,[0]),(4,[3,4,5]),(5,[2])],[]⟩ Tryz.f83 = some F83 := by kernel_rfl
theorem F83_fn:FnOK2 Tryz.prog 83 (.pl F83):=.pl Tryz.func83 (by kernel_rfl) F83_ok
theorem F84_ok : prepF Tryz.prog ⟨[],[(0,[0]),(1,[0,3]),(2,[3,7,8,9]),(3,[3,7,8,9,10]),(4,[3,5,7,8,9]),(5,[3,5,7,8,9]),(6,[3,7,8,9,25]),(7,[2]),(8,[3,7,8,9]),(9,[2]),(1000000,[3,7,8,9])],[]⟩ Tryz.f84 = some F84 := by kernel_rfl
theorem F84_fn:FnOK2 Tryz.prog 84 (.pl F84):=.pl Tryz.func84 (by kernel_rfl) F84_ok
abbrev N85:Note:=⟨[],[(0,[0,1]),(1,[4])],[]⟩
def F85:DF:=pF N85 Tryz.f85
theorem F85_ok:prepF Tryz.prog N85 Tryz.f85=some F85:=by kernel_rfl
theorem F85_fn:FnOK2 Tryz.prog 85 (.pl F85):=.pl Tryz.func85 (by kernel_rfl) F85_ok
theorem F86_ok : prepF Tryz.prog ⟨[],[(0,[0]),(1,[0,3]),(2,[0,3,9]),(3,[0,3,5]),(4,[0,3,5,18]),(5,[2]),(6,[0,3]),(7,[2]),(1000000,[0,3])],[]⟩ Tryz.f86 = some F86 := by kernel_rfl
theorem F86_fn:FnOK2 Tryz.prog 86 (.pl F86):=.pl Tryz.func86 (by kernel_rfl) F86_ok
theorem F87_ok : prepG Tryz.prog ⟨[],[(0,[0,1]),(1,[0,1,6]),(2,[0,1,2,3]),(3,[0,1,2,13]),(4,[0,2]),(5,[])],[]⟩ Tryz.f87 = some F87 := by kernel_rfl
theorem F87_fn : FnOK2 Tryz.prog 87 (.rc F87) := .rc Tryz.func87 (by kernel_rfl) F87_ok
abbrev N88:Note:=⟨[],[(0,[0,1]),(1,[0,1,5]),(2,[0,1,5,32]),(3,[0,1,5]),(4,[4]),(1000000,[0,1,5])],[]⟩
def F88:DF:=pF N88 Tryz.f88
theorem F88_ok:prepF Tryz.prog N88 Tryz.f88=some F88:=by kernel_rfl
theorem F88_fn:FnOK2 Tryz.prog 88 (.pl F88):=.pl Tryz.func88 (by kernel_rfl) F88_ok
abbrev N89:Note:=⟨[],[(0,[0]),(1,[2])],[]⟩
def F89:DF:=pF N89 Tryz.f89
theorem F89_ok:prepF Tryz.prog N89 Tryz.f89=some F89:=by kernel_rfl
theorem F89_fn:FnOK2 Tryz.prog 89 (.pl F89):=.pl Tryz.func89 (by kernel_rfl) F89_ok
abbrev N90:Note:=⟨[],[(0,[0,1]),(1,[4])],[]⟩
def F90:DF:=pF N90 Tryz.f90
theorem F90_ok:prepF Tryz.prog N90 Tryz.f90=some F90:=by kernel_rfl
theorem F90_fn:FnOK2 Tryz.prog 90 (.pl F90):=.pl Tryz.func90 (by kernel_rfl) F90_ok
abbrev N91:Note:=⟨[],[(0,[0,1,3,9]),(1,[0,1,3]),(2,[0,1]),(3,[1,24]),(4,[])],[]⟩
def F91:DF:=pF N91 Tryz.f91
theorem F91_ok:prepF Tryz.prog N91 Tryz.f91=some F91:=by kernel_rfl
theorem F91_fn:FnOK2 Tryz.prog 91 (.pl F91):=.pl Tryz.func91 (by kernel_rfl) F91_ok
abbrev N92:Note:=⟨[],[(0,[0]),(1,[0,3,4,5]),(2,[0,3,4,5,21]),(3,[0,3,4]),(4,[3]),(5,[2])],[]⟩
def F92:DF:=pF N92 Tryz.f92
theorem F92_ok:prepF Tryz.prog N92 Tryz.f92=some F92:=by kernel_rfl
theorem F92_fn:FnOK2 Tryz.prog 92 (.pl F92):=.pl Tryz.func92 (by kernel_rfl) F92_ok
abbrev N93:Note:=⟨[2,4,5],[(0,[1,2,4]),(1,[1,2,4,5]),(2,[1,2,4,5]),(3,[1,2,4,5]),(4,[1,2,4,5,14]),(5,[4,5]),(6,[4]),(7,[1,2,4,5]),(8,[1,2,4,5]),(9,[1,2,4,5]),(10,[1,2,4,5,40]),(11,[4,5]),(12,[4]),(13,[1,2,4,5]),(1000000,[1,2,4,5])],[(8,[(some 5),(some 5),(some 2),none,none,none,none,none,(some 5),(some 5)])]⟩
def F93:DF:=pF N93 Tryz.f93
theorem F93_ok:prepF Tryz.prog N93 Tryz.f93=some F93:=by kernel_rfl
theorem F93_fn:FnOK2 Tryz.prog 93 (.pl F93):=.pl Tryz.func93 (by kernel_rfl) F93_ok
abbrev N94:Note:=⟨[2,4,5],[(0,[1,2,4]),(1,[1,2,4,5]),(2,[1,2,4,5,6]),(3,[1,2,4,5,6]),(4,[1,2,4,5,6]),(5,[1,2,4,5,6,18]),(6,[4,5]),(7,[4]),(8,[1,2,4,5,6]),(9,[1,2,4,5,6,7]),(10,[1,2,4,5,6,7,38]),(11,[1,2,4,5,6,7]),(12,[1,2,4,5,6,7,8]),(13,[1,2,4,5,6,7,8]),(14,[1,2,4,5,6,7,8,52]),(15,[1,2,4,5,6,8]),(16,[1,2,4,5,6,8]),(17,[1,2,4,5,6,8]),(18,[1,2,4,5,6,8]),(19,[1,2,4,5,6]),(20,[1,2,4,5,6]),(21,[1,2,4,5,6]),(22,[1,2,4,5,6,82]),(23,[4,5]),(24,[4]),(25,[1,2,4,5,6]),(1000000,[1,2,4,5,6])],[(20,[(some 5),(some 5),(some 2),none,none,none,none,none,(some 5),(some 5)])]⟩
def F94:DF:=pF N94 Tryz.f94
theorem F94_ok:prepF Tryz.prog N94 Tryz.f94=some F94:=by kernel_rfl
theorem F94_fn:FnOK2 Tryz.prog 94 (.pl F94):=.pl Tryz.func94 (by kernel_rfl) F94_ok
abbrev N95:Note:=⟨[],[(0,[0]),(1,[2])],[]⟩
def F95:DF:=pF N95 Tryz.f95
theorem F95_ok:prepF Tryz.prog N95 Tryz.f95=some F95:=by kernel_rfl
theorem F95_fn:FnOK2 Tryz.prog 95 (.pl F95):=.pl Tryz.func95 (by kernel_rfl) F95_ok
abbrev N96:Note:=⟨[],[(0,[0]),(1,[2])],[]⟩
def F96:DF:=pF N96 Tryz.f96
theorem F96_ok:prepF Tryz.prog N96 Tryz.f96=some F96:=by kernel_rfl
theorem F96_fn:FnOK2 Tryz.prog 96 (.pl F96):=.pl Tryz.func96 (by kernel_rfl) F96_ok
abbrev N97:Note:=⟨[],[(0,[])],[]⟩
def F97:DF:=pF N97 Tryz.f97
theorem F97_ok:prepF Tryz.prog N97 Tryz.f97=some F97:=by kernel_rfl
theorem F97_fn:FnOK2 Tryz.prog 97 (.pl F97):=.pl Tryz.func97 (by kernel_rfl) F97_ok
abbrev N98:Note:=⟨[2],[(0,[0,2]),(1,[0,2,3]),(2,[0,2,3,11]),(3,[2,3,4,5]),(4,[2,3,4,5,53]),(5,[2,4]),(6,[2]),(7,[0,2,3,59]),(8,[0,2,3,6]),(9,[0,2,3,6,84]),(10,[0,2,3,6,84,85]),(11,[2]),(12,[0,2,3,6,84,88]),(13,[0,2,3,6,88]),(14,[2]),(15,[0,2]),(16,[2]),(17,[2])],[]⟩
def F98:DF:=pF N98 Tryz.f98
theorem F98_ok:prepF Tryz.prog N98 Tryz.f98=some F98:=by kernel_rfl
theorem F98_fn:FnOK2 Tryz.prog 98 (.pl F98):=.pl Tryz.func98 (by kernel_rfl) F98_ok
theorem F99_ok : prepF Tryz.prog ⟨[],[(0,[0,1]),(1,[0,1,7,8]),(2,[0,1,7,8,9]),(3,[0,1,5,7,8]),(4,[0,1,5,7,8,16]),(5,[4]),(6,[0,1,7,8]),(7,[4]),(1000000,[0,1,7,8])],[]⟩ Tryz.f99 = some F99 := by kernel_rfl
theorem F99_fn:FnOK2 Tryz.prog 99 (.pl F99):=.pl Tryz.func99 (by kernel_rfl) F99_ok
theorem F100_ok : prepF Tryz.prog ⟨[],[(0,[0,1]),(1,[0,1,10]),(2,[4]),(3,[0,1,12,13]),(4,[0,1,12,13,14]),(5,[0,1,5,12,13]),(6,[0,1,12,13,24]),(7,[4]),(8,[0,1,12,13]),(9,[4]),(1000000,[0,1,12,13])],[]⟩ Tryz.f100 = some F100 := by kernel_rfl
theorem F100_fn:FnOK2 Tryz.prog 100 (.pl F100):=.pl Tryz.func100 (by kernel_rfl) F100_ok
theorem F101_ok : prepF Tryz.prog ⟨[8,9],[(0,[0,1,2]),(1,[0,1,2,14]),(2,[6]),(3,[1,2,15,16,17]),(4,[1,2,15,16,17,18]),(5,[1,2,7,8,15,16,17]),(6,[1,2,8,9,15,16,17]),(7,[1,2,15,16,17,30]),(8,[6]),(9,[1,2,15,16,17]),(10,[6]),(1000000,[1,2,15,16,17])],[]⟩ Tryz.f101 = some F101 := by kernel_rfl
theorem F101_fn:FnOK2 Tryz.prog 101 (.pl F101):=.pl Tryz.func101 (by kernel_rfl) F101_ok
theorem F102_ok : prepF Tryz.prog ⟨[],[(0,[0]),(1,[2])],[]⟩ Tryz.f102 = some F102 := by kernel_rfl
theorem F102_fn:FnOK2 Tryz.prog 102 (.pl F102):=.pl Tryz.func102 (by kernel_rfl) F102_ok
theorem F103_ok : prepF Tryz.prog ⟨[6,8],[(0,[0,1]),(1,[1,6,7]),(2,[1,6,7,15]),(3,[4,5]),(4,[6,7,8]),(5,[6,7,8,23]),(6,[4,5]),(7,[6,8,25]),(8,[4,5]),(9,[6,8,35]),(10,[4,5]),(11,[6,8,38]),(12,[4,5]),(13,[4,5])],[]⟩ Tryz.f103 = some F103 := by kernel_rfl
theorem F103_fn:FnOK2 Tryz.prog 103 (.pl F103):=.pl Tryz.func103 (by kernel_rfl) F103_ok
theorem F104_ok : prepF Tryz.prog ⟨[],[(0,[0,1]),(1,[4])],[]⟩ Tryz.f104 = some F104 := by kernel_rfl
theorem F104_fn:FnOK2 Tryz.prog 104 (.pl F104):=.pl Tryz.func104 (by kernel_rfl) F104_ok
theorem F112_ok : prepF Tryz.prog ⟨[],[(0,[])],[]⟩ Tryz.f112 = some F112 := by kernel_rfl
theorem F112_fn:FnOK2 Tryz.prog 112 (.pl F112):=.pl Tryz.func112 (by kernel_rfl) F112_ok
theorem F113_ok : prepF Tryz.prog ⟨[],[(0,[0,1,2]),(1,[5])],[]⟩ Tryz.f113 = some F113 := by kernel_rfl
theorem F113_fn:FnOK2 Tryz.prog 113 (.pl F113):=.pl Tryz.func113 (by kernel_rfl) F113_ok
theorem F128_ok : prepF Tryz.prog ⟨[],[(0,[0,1]),(1,[0,1]),(2,[1]),(3,[4,5])],[]⟩ Tryz.f128 = some F128 := by kernel_rfl
theorem F128_fn:FnOK2 Tryz.prog 128 (.pl F128):=.pl Tryz.func128 (by kernel_rfl) F128_ok
theorem F129_ok : prepF Tryz.prog ⟨[],[(0,[0,1]),(1,[0,1]),(2,[]),(3,[4])],[]⟩ Tryz.f129 = some F129 := by kernel_rfl
theorem F129_fn:FnOK2 Tryz.prog 129 (.pl F129):=.pl Tryz.func129 (by kernel_rfl) F129_ok
theorem F130_ok : prepF Tryz.prog ⟨[],[(0,[0]),(1,[0,3]),(2,[0,3,4]),(3,[0,3,4]),(4,[2]),(5,[3,8]),(6,[2]),(7,[3,10]),(8,[2]),(9,[3,12]),(10,[2]),(11,[3,14]),(12,[2]),(13,[16]),(14,[2]),(15,[2])],[]⟩ Tryz.f130 = some F130 := by kernel_rfl
theorem F130_fn:FnOK2 Tryz.prog 130 (.pl F130):=.pl Tryz.func130 (by kernel_rfl) F130_ok
theorem F131_ok : prepF Tryz.prog ⟨[],[(0,[0]),(1,[2])],[]⟩ Tryz.f131 = some F131 := by kernel_rfl
theorem F131_fn:FnOK2 Tryz.prog 131 (.pl F131):=.pl Tryz.func131 (by kernel_rfl) F131_ok
theorem F132_ok : prepF Tryz.prog ⟨[2],[(0,[0,2]),(1,[0,2,4,5,6,7,8]),(2,[0,2,4,5,6,7,21]),(3,[2,3]),(4,[2,4,5,6,7,25]),(5,[2,3]),(6,[2,4,5,6,8,9]),(7,[2,4,5,6,9,33]),(8,[2,3]),(9,[2,4,6,9,10]),(10,[2,4,9,10]),(11,[2,4,9,10,11]),(12,[2,4,9,11]),(13,[2,4,9,11,53]),(14,[2,3]),(15,[2,3])],[]⟩ Tryz.f132 = some F132 := by kernel_rfl
theorem F132_fn:FnOK2 Tryz.prog 132 (.pl F132):=.pl Tryz.func132 (by kernel_rfl) F132_ok
theorem F133_ok : prepF Tryz.prog ⟨[1],[(0,[1]),(1,[1,4]),(2,[1,4,9]),(3,[1,4,9]),(4,[1,4,9]),(5,[2,3]),(6,[1,4,42]),(7,[2,3]),(8,[1,51]),(9,[2,3]),(10,[1,5]),(11,[1,5,57]),(12,[1,5]),(13,[1,5,62]),(14,[5]),(15,[5,71]),(16,[2,3]),(17,[2,3])],[]⟩ Tryz.f133 = some F133 := by kernel_rfl
theorem F133_fn:FnOK2 Tryz.prog 133 (.pl F133):=.pl Tryz.func133 (by kernel_rfl) F133_ok
theorem F134_ok : prepF Tryz.prog ⟨[],[(0,[0]),(1,[0,33]),(2,[2]),(3,[2])],[]⟩ Tryz.f134 = some F134 := by kernel_rfl
theorem F134_fn:FnOK2 Tryz.prog 134 (.pl F134):=.pl Tryz.func134 (by kernel_rfl) F134_ok
theorem F135_ok : prepF Tryz.prog ⟨[],[(0,[0]),(1,[0,34]),(2,[2]),(3,[0,37]),(4,[2]),(5,[0,3]),(6,[2])],[]⟩ Tryz.f135 = some F135 := by kernel_rfl
theorem F135_fn:FnOK2 Tryz.prog 135 (.pl F135):=.pl Tryz.func135 (by kernel_rfl) F135_ok
theorem F136_ok : prepF Tryz.prog ⟨[],[(0,[0]),(1,[0,6]),(2,[2,3]),(3,[0,30]),(4,[2,3]),(5,[0,4]),(6,[0,4,51]),(7,[2,3]),(8,[2,3])],[]⟩ Tryz.f136 = some F136 := by kernel_rfl
theorem F136_fn:FnOK2 Tryz.prog 136 (.pl F136):=.pl Tryz.func136 (by kernel_rfl) F136_ok
theorem F137_ok : prepF Tryz.prog ⟨[],[(0,[0,1]),(1,[4,5,6])],[]⟩ Tryz.f137 = some F137 := by kernel_rfl
theorem F137_fn:FnOK2 Tryz.prog 137 (.pl F137):=.pl Tryz.func137 (by kernel_rfl) F137_ok
theorem F138_ok : prepF Tryz.prog ⟨[],[(0,[0]),(1,[0,7]),(2,[2,3]),(3,[0,2,3,4]),(4,[0,2,3,4,22]),(5,[2,3]),(6,[0,2,3,4,5]),(7,[0,2,3,4,5,25]),(8,[0,2,3,4,5]),(9,[0,2,3,4,5,32]),(10,[2,3]),(11,[0,2,3,4,5]),(12,[2,3,48]),(13,[2,3]),(14,[2,3]),(1000000,[0,2,3,4,5])],[]⟩ Tryz.f138 = some F138 := by kernel_rfl
theorem F138_fn:FnOK2 Tryz.prog 138 (.pl F138):=.pl Tryz.func138 (by kernel_rfl) F138_ok
abbrev N139:Note:=⟨[],[(0,[0]),(1,[0,11]),(2,[2,3,4]),(3,[0,15]),(4,[2,3,4]),(5,[0,5]),(6,[0,5,6]),(7,[0,5,6,20]),(8,[0,5,6,7]),(9,[0,5,6]),(10,[0,5,6]),(11,[0,5,6,7,30]),(12,[2,3,4]),(13,[0,5,6,7,37]),(14,[2,3,4]),(15,[0,5,6,7,42]),(16,[0,5,6,8,9]),(17,[0,5,6,8,9,54]),(18,[2,3,4]),(19,[0,5,6,9]),(20,[0,5,6]),(21,[2,3,4]),(1000000,[0,5,6])],[]⟩
def F139:DF:=pF N139 Tryz.f139
theorem F139_ok:prepF Tryz.prog N139 Tryz.f139=some F139:=by kernel_rfl
theorem F139_fn:FnOK2 Tryz.prog 139 (.pl F139):=.pl Tryz.func139 (by kernel_rfl) F139_ok
abbrev N140:Note:=⟨[],[(0,[0,7]),(1,[0]),(2,[])],[]⟩
def F140:DF:=pF N140 Tryz.f140
theorem F140_ok:prepF Tryz.prog N140 Tryz.f140=some F140:=by kernel_rfl
theorem F140_fn:FnOK2 Tryz.prog 140 (.pl F140):=.pl Tryz.func140 (by kernel_rfl) F140_ok
abbrev N141:Note:=⟨[],[(0,[0]),(1,[2])],[]⟩
def F141:DF:=pF N141 Tryz.f141
theorem F141_ok:prepF Tryz.prog N141 Tryz.f141=some F141:=by kernel_rfl
theorem F141_fn:FnOK2 Tryz.prog 141 (.pl F141):=.pl Tryz.func141 (by kernel_rfl) F141_ok
abbrev N142:Note:=⟨[],[(0,[0]),(1,[2])],[]⟩
def F142:DF:=pF N142 Tryz.f142
theorem F142_ok:prepF Tryz.prog N142 Tryz.f142=some F142:=by kernel_rfl
theorem F142_fn:FnOK2 Tryz.prog 142 (.pl F142):=.pl Tryz.func142 (by kernel_rfl) F142_ok
theorem F143_ok : prepF Tryz.prog ⟨[2],[(0,[0,2]),(1,[0,2,5]),(2,[0,2,5,12]),(3,[2,3]),(4,[2,3])],[]⟩ Tryz.f143 = some F143 := by kernel_rfl
theorem F143_fn:FnOK2 Tryz.prog 143 (.pl F143):=.pl Tryz.func143 (by kernel_rfl) F143_ok
theorem F144_ok : prepF Tryz.prog ⟨[2,3],[(0,[2,3]),(1,[2,3,5,6]),(2,[2,3,5,6,13]),(3,[4]),(4,[2,3,5,6,25]),(5,[4]),(6,[4])],[(1,[(some 2),(some 2),none,(some 3),(some 3),none,none,none])]⟩ Tryz.f144 = some F144 := by kernel_rfl
theorem F144_fn:FnOK2 Tryz.prog 144 (.pl F144):=.pl Tryz.func144 (by kernel_rfl) F144_ok
theorem F145_ok : prepF Tryz.prog ⟨[],[(0,[0,1]),(1,[4])],[]⟩ Tryz.f145 = some F145 := by kernel_rfl
theorem F145_fn:FnOK2 Tryz.prog 145 (.pl F145):=.pl Tryz.func145 (by kernel_rfl) F145_ok
theorem F150_ok : prepF Tryz.prog ⟨[],[(0,[0,1,2,6]),(1,[0,1,2,6,7,8]),(2,[0,1,2,6,7,8,13]),(3,[0,1,2,6,8]),(4,[0,1,2,6,7,8]),(5,[0,1,2,6,7,8]),(6,[0,1,2,6]),(7,[0,1,2,6,30]),(8,[0,1,2,6,7,8]),(9,[0,1,2,6,7,8,35]),(10,[0,1,2,6,8]),(11,[0,1,2,6,7,8]),(12,[0,1,2,6,7,8]),(13,[0,1,2,6,7,9]),(14,[0,1,2,6,7,9,54]),(15,[0,1,2,6]),(16,[0,1,2,6]),(1000000,[0,1,2,6,7,8]),(1000002,[0,1,2,6]),(1000004,[0,1,2,6,7,8])],[]⟩ Tryz.f150 = some F150 := by kernel_rfl
theorem F150_fn:FnOK2 Tryz.prog 150 (.pl F150):=.pl Tryz.func150 (by kernel_rfl) F150_ok
theorem F159_ok : prepF Tryz.prog ⟨[],[(0,[0,6]),(1,[]),(2,[19])],[]⟩ Tryz.f159 = some F159 := by kernel_rfl
theorem F159_fn:FnOK2 Tryz.prog 159 (.pl F159):=.pl Tryz.func159 (by kernel_rfl) F159_ok
theorem F160_ok : prepF Tryz.prog ⟨[],[(0,[0,4]),(1,[4,7]),(2,[2,4,7]),(3,[2,4,7,13]),(4,[2,4,7]),(5,[2,4,7,8]),(6,[2,4,7,8,28]),(7,[2,3,4,5,6]),(8,[2,3,4,7]),(9,[2,3,4,7,36]),(10,[2,3,7,8]),(11,[2,3,7,8,41]),(12,[2,3,4,5,6]),(13,[2,3,4,7]),(14,[2,3,4,7,51]),(15,[2,3,4,5,6]),(16,[2,3,4,7,62]),(17,[2,3,4,5,6]),(18,[2,3,4,5]),(19,[2,3,4,5,9]),(20,[2,3,4,5,9,69]),(21,[2,3,4,5,9]),(22,[2,3,4,5,80]),(23,[2,3,4,5,6]),(24,[2,3,4,5,6])],[]⟩ Tryz.f160 = some F160 := by kernel_rfl
theorem F160_fn:FnOK2 Tryz.prog 160 (.pl F160):=.pl Tryz.func160 (by kernel_rfl) F160_ok
theorem F161_ok : prepF Tryz.prog ⟨[],[(0,[0]),(1,[0,4]),(2,[0,4]),(3,[0,4,14]),(4,[2,3]),(5,[4,5]),(6,[5,21]),(7,[2,3]),(8,[2,3])],[]⟩ Tryz.f161 = some F161 := by kernel_rfl
theorem F161_fn:FnOK2 Tryz.prog 161 (.pl F161):=.pl Tryz.func161 (by kernel_rfl) F161_ok
abbrev N162:Note:=⟨[],[(0,[0,1]),(1,[0,1,12]),(2,[4]),(3,[0,1,21]),(4,[4]),(5,[0,1,5,6]),(6,[0,1,5,31]),(7,[4]),(8,[4])],[]⟩
def F162:DF:=pF N162 Tryz.f162
theorem F162_ok:prepF Tryz.prog N162 Tryz.f162=some F162:=by kernel_rfl
theorem F162_fn:FnOK2 Tryz.prog 162 (.pl F162):=.pl Tryz.func162 (by kernel_rfl) F162_ok
abbrev N163:Note:=⟨[],[(0,[0,1]),(1,[0,1,12]),(2,[4]),(3,[0,1,21]),(4,[4]),(5,[0,1,5,6]),(6,[0,1,5,31]),(7,[4]),(8,[4])],[]⟩
def F163:DF:=pF N163 Tryz.f163
theorem F163_ok:prepF Tryz.prog N163 Tryz.f163=some F163:=by kernel_rfl
theorem F163_fn:FnOK2 Tryz.prog 163 (.pl F163):=.pl Tryz.func163 (by kernel_rfl) F163_ok
theorem F164_ok : prepF Tryz.prog ⟨[],[(0,[0]),(1,[0,3]),(2,[0,3,13]),(3,[0,3]),(4,[2]),(1000000,[0,3])],[]⟩ Tryz.f164 = some F164 := by kernel_rfl
theorem F164_fn:FnOK2 Tryz.prog 164 (.pl F164):=.pl Tryz.func164 (by kernel_rfl) F164_ok
abbrev N165:Note:=⟨[],[(0,[0]),(1,[2])],[]⟩
def F165:DF:=pF N165 Tryz.f165
theorem F165_ok:prepF Tryz.prog N165 Tryz.f165=some F165:=by kernel_rfl
theorem F165_fn:FnOK2 Tryz.prog 165 (.pl F165):=.pl Tryz.func165 (by kernel_rfl) F165_ok
theorem F166_ok : prepF Tryz.prog ⟨[],[(0,[0]),(1,[0,25]),(2,[2]),(3,[2])],[]⟩ Tryz.f166 = some F166 := by kernel_rfl
theorem F166_fn:FnOK2 Tryz.prog 166 (.pl F166):=.pl Tryz.func166 (by kernel_rfl) F166_ok
theorem F167_ok : prepF Tryz.prog ⟨[],[(0,[0,1,2]),(1,[6])],[]⟩ Tryz.f167 = some F167 := by kernel_rfl
theorem F167_fn:FnOK2 Tryz.prog 167 (.pl F167):=.pl Tryz.func167 (by kernel_rfl) F167_ok
theorem F168_ok : prepF Tryz.prog ⟨[],[(0,[0,1]),(1,[0,5]),(2,[0,5,6]),(3,[0,5,6]),(4,[0,5,6]),(5,[0,5,6]),(6,[4]),(7,[0,11]),(8,[25]),(9,[4]),(10,[4]),(11,[4])],[]⟩ Tryz.f168 = some F168 := by kernel_rfl
theorem F168_fn:FnOK2 Tryz.prog 168 (.pl F168):=.pl Tryz.func168 (by kernel_rfl) F168_ok
abbrev N169:Note:=⟨[],[(0,[0,1]),(1,[0,1,12]),(2,[4]),(3,[0,1,21]),(4,[4]),(5,[0,1,5,6]),(6,[0,1,5,34]),(7,[4]),(8,[4])],[]⟩
def F169:DF:=pF N169 Tryz.f169
theorem F169_ok:prepF Tryz.prog N169 Tryz.f169=some F169:=by kernel_rfl
theorem F169_fn:FnOK2 Tryz.prog 169 (.pl F169):=.pl Tryz.func169 (by kernel_rfl) F169_ok
theorem F170_ok : prepF Tryz.prog ⟨[],[(0,[0,1]),(1,[4])],[]⟩ Tryz.f170 = some F170 := by kernel_rfl
theorem F170_fn:FnOK2 Tryz.prog 170 (.pl F170):=.pl Tryz.func170 (by kernel_rfl) F170_ok
theorem F171_ok : prepF Tryz.prog ⟨[],[(0,[0,1]),(1,[0,1,7]),(2,[0,1,7,12]),(3,[4,5,6]),(4,[4,5,6])],[]⟩ Tryz.f171 = some F171 := by kernel_rfl
theorem F171_fn:FnOK2 Tryz.prog 171 (.pl F171):=.pl Tryz.func171 (by kernel_rfl) F171_ok
theorem F172_ok : prepF Tryz.prog ⟨[],[(0,[0]),(1,[0,5]),(2,[2,3,4]),(3,[0,11]),(4,[2,3,4]),(5,[0,18]),(6,[2,3,4]),(7,[0,25]),(8,[2,3,4]),(9,[2,3,4])],[]⟩ Tryz.f172 = some F172 := by kernel_rfl
theorem F172_fn:FnOK2 Tryz.prog 172 (.pl F172):=.pl Tryz.func172 (by kernel_rfl) F172_ok
theorem F173_ok : prepF Tryz.prog ⟨[],[(0,[0]),(1,[2])],[]⟩ Tryz.f173 = some F173 := by kernel_rfl
theorem F173_fn:FnOK2 Tryz.prog 173 (.pl F173):=.pl Tryz.func173 (by kernel_rfl) F173_ok
abbrev N174:Note:=⟨[],[(0,[0]),(1,[0,5]),(2,[2,3]),(3,[0,7]),(4,[0,7,8]),(5,[0,7,8]),(6,[0,7,8]),(7,[2,3]),(8,[0,7,15]),(9,[2,3]),(10,[0,7,17]),(11,[2,3]),(12,[0,7,19]),(13,[2,3]),(14,[0,7,21]),(15,[2,3]),(16,[0,7,23]),(17,[2,3]),(18,[0,25]),(19,[2,3]),(20,[2,3])],[]⟩
def F174:DF:=pF N174 Tryz.f174
theorem F174_ok:prepF Tryz.prog N174 Tryz.f174=some F174:=by kernel_rfl
theorem F174_fn:FnOK2 Tryz.prog 174 (.pl F174):=.pl Tryz.func174 (by kernel_rfl) F174_ok
abbrev N175:Note:=⟨[],[(0,[0,3]),(1,[0,3,5]),(2,[0,3,5,7]),(3,[4]),(4,[0,3,5,15]),(5,[4]),(6,[0,3,5,27]),(7,[4]),(8,[4])],[]⟩
def F175:DF:=pF N175 Tryz.f175
theorem F175_ok:prepF Tryz.prog N175 Tryz.f175=some F175:=by kernel_rfl
theorem F175_fn:FnOK2 Tryz.prog 175 (.pl F175):=.pl Tryz.func175 (by kernel_rfl) F175_ok
theorem F176_ok : prepF Tryz.prog ⟨[],[(0,[0]),(1,[2])],[]⟩ Tryz.f176 = some F176 := by kernel_rfl
theorem F176_fn:FnOK2 Tryz.prog 176 (.pl F176):=.pl Tryz.func176 (by kernel_rfl) F176_ok
theorem F180_ok : prepF Tryz.prog ⟨[],[(0,[0,1,2,3,8]),(1,[0,1,2,3,8,14]),(2,[0,1,2,3,8]),(3,[0,1,2,3,8,9]),(4,[0,1,2,3,8,9,34]),(5,[0,1,2,3,8,9]),(6,[0,1,2,3,8,9]),(1000000,[0,1,2,3,8]),(1000002,[0,1,2,3,8,9])],[]⟩ Tryz.f180 = some F180 := by kernel_rfl
theorem F180_fn:FnOK2 Tryz.prog 180 (.pl F180):=.pl Tryz.func180 (by kernel_rfl) F180_ok
theorem F181_ok : prepF Tryz.prog ⟨[],[(0,[0,1,2,3,4,28]),(1,[0,1,3,4,10]),(2,[0,1,4,10,11]),(3,[0,1,4,10,11,33]),(4,[0,1,4,10,11,12]),(5,[0,1,4,10,11,12,50]),(6,[0,1,4,10,11]),(7,[0,1,4,10,11]),(8,[0,10,13]),(9,[0,10,13,58]),(10,[0,10,13]),(11,[0,10,13]),(12,[0,1,2,3,4,80]),(13,[0,2,4,14]),(14,[0,2,4,14,15]),(15,[0,2,4,14,15,85]),(16,[0,2,4,14,15,16]),(17,[0,2,4,14,15,16,103]),(18,[0,2,4,14,15]),(19,[0,2,4,14,15]),(20,[0,14,17]),(21,[0,14,17,110]),(22,[0,14,17]),(23,[0,14,17]),(24,[0,1,2,3,4,18]),(25,[0,1,2,3,4,18,19]),(26,[0,1,2,3,4,18,19]),(27,[0,1,2,3,4,18,19,140]),(28,[0,1,2,3,4,18,19,20]),(29,[0,1,2,3,4,18,19,20,21]),(30,[0,1,2,3,4,18,19,20]),(31,[0,1,2,3,4,18,19,20,21]),(32,[0,1,2,3,4,18,19,20,21,22]),(33,[0,1,2,3,4,18,19,20,21,22,151]),(34,[0,1,2,3,4,18,19,20,21,22,23]),(35,[0,1,2,3,4,18,19,20,21,22,23,171]),(36,[0,1,2,3,4,18,19,20,21,22]),(37,[0,1,2,3,4,18,19,20,21,22]),(38,[0,1,2,3,4,18,20,24]),(39,[0,1,2,3,4,18,20,24,185]),(40,[0,1,3,4,18,20,24]),(41,[0,1,3,4,18,20,24,199]),(42,[0,3,4,18,24]),(43,[0,3,4,18,24,213]),(44,[]),(1000000,[0,1,4,10,11]),(1000002,[0,10,13]),(1000004,[0,2,4,14,15]),(1000006,[0,14,17]),(1000008,[0,1,2,3,4,18,19,20,21,22])],[]⟩ Tryz.f181 = some F181 := by kernel_rfl
theorem F181_fn:FnOK2 Tryz.prog 181 (.pl F181):=.pl Tryz.func181 (by kernel_rfl) F181_ok
theorem F185_ok : prepF Tryz.prog ⟨[],[(0,[0,1]),(1,[4])],[]⟩ Tryz.f185 = some F185 := by kernel_rfl
theorem F185_fn:FnOK2 Tryz.prog 185 (.pl F185):=.pl Tryz.func185 (by kernel_rfl) F185_ok
theorem F186_ok : prepF Tryz.prog ⟨[],[(0,[0,1]),(1,[4])],[]⟩ Tryz.f186 = some F186 := by kernel_rfl
theorem F186_fn:FnOK2 Tryz.prog 186 (.pl F186):=.pl Tryz.func186 (by kernel_rfl) F186_ok
abbrev N187:Note:=⟨[],[(0,[0]),(1,[0,4,5]),(2,[0,4,5,12]),(3,[2,3]),(4,[2,3])],[]⟩
def F187:DF:=pF N187 Tryz.f187
theorem F187_ok:prepF Tryz.prog N187 Tryz.f187=some F187:=by kernel_rfl
theorem F187_fn:FnOK2 Tryz.prog 187 (.pl F187):=.pl Tryz.func187 (by kernel_rfl) F187_ok
abbrev N188:Note:=⟨[],[(0,[0,1]),(1,[0,1,13]),(2,[0,1]),(3,[4]),(1000000,[0,1])],[]⟩
def F188:DF:=pF N188 Tryz.f188
theorem F188_ok:prepF Tryz.prog N188 Tryz.f188=some F188:=by kernel_rfl
theorem F188_fn:FnOK2 Tryz.prog 188 (.pl F188):=.pl Tryz.func188 (by kernel_rfl) F188_ok
abbrev N189:Note:=⟨[2],[(0,[0,2]),(1,[0,2,4]),(2,[0,2,4,9]),(3,[0,2,4]),(4,[0,2,4,5]),(5,[0,2,4,5,16]),(6,[2,3]),(7,[0,2,4]),(8,[2,3]),(1000000,[0,2,4])],[]⟩
def F189:DF:=pF N189 Tryz.f189
theorem F189_ok:prepF Tryz.prog N189 Tryz.f189=some F189:=by kernel_rfl
theorem F189_fn:FnOK2 Tryz.prog 189 (.pl F189):=.pl Tryz.func189 (by kernel_rfl) F189_ok
abbrev N190:Note:=⟨[],[(0,[0,1]),(1,[0,1,7]),(2,[0,1,12]),(3,[0,1]),(4,[4]),(1000000,[0,1])],[]⟩
def F190:DF:=pF N190 Tryz.f190
theorem F190_ok:prepF Tryz.prog N190 Tryz.f190=some F190:=by kernel_rfl
theorem F190_fn:FnOK2 Tryz.prog 190 (.pl F190):=.pl Tryz.func190 (by kernel_rfl) F190_ok
abbrev N191:Note:=⟨[],[(0,[0,1]),(1,[0,1,9]),(2,[0,1,5,6]),(3,[0,1,6,18]),(4,[0,1]),(5,[4]),(1000000,[0,1])],[]⟩
def F191:DF:=pF N191 Tryz.f191
theorem F191_ok:prepF Tryz.prog N191 Tryz.f191=some F191:=by kernel_rfl
theorem F191_fn:FnOK2 Tryz.prog 191 (.pl F191):=.pl Tryz.func191 (by kernel_rfl) F191_ok
abbrev N192:Note:=⟨[],[(0,[0,1]),(1,[0,1,16]),(2,[0,1]),(3,[4]),(1000000,[0,1])],[]⟩
def F192:DF:=pF N192 Tryz.f192
theorem F192_ok:prepF Tryz.prog N192 Tryz.f192=some F192:=by kernel_rfl
theorem F192_fn:FnOK2 Tryz.prog 192 (.pl F192):=.pl Tryz.func192 (by kernel_rfl) F192_ok
abbrev N193:Note:=⟨[],[(0,[0,1]),(1,[0,1,7]),(2,[0,1,15]),(3,[0,1]),(4,[4]),(1000000,[0,1])],[]⟩
def F193:DF:=pF N193 Tryz.f193
theorem F193_ok:prepF Tryz.prog N193 Tryz.f193=some F193:=by kernel_rfl
theorem F193_fn:FnOK2 Tryz.prog 193 (.pl F193):=.pl Tryz.func193 (by kernel_rfl) F193_ok
abbrev N194:Note:=⟨[],[(0,[0,1]),(1,[0,1,9]),(2,[0,1,5,6]),(3,[0,1,5,6,17]),(4,[0,1,5,6]),(5,[0,1,6,26]),(6,[0,1]),(7,[4]),(1000000,[0,1])],[]⟩
def F194:DF:=pF N194 Tryz.f194
theorem F194_ok:prepF Tryz.prog N194 Tryz.f194=some F194:=by kernel_rfl
theorem F194_fn:FnOK2 Tryz.prog 194 (.pl F194):=.pl Tryz.func194 (by kernel_rfl) F194_ok
theorem F195_ok : prepF Tryz.prog ⟨[],[(0,[0]),(1,[2])],[]⟩ Tryz.f195 = some F195 := by kernel_rfl
theorem F195_fn:FnOK2 Tryz.prog 195 (.pl F195):=.pl Tryz.func195 (by kernel_rfl) F195_ok
abbrev N196:Note:=⟨[],[(0,[0]),(1,[2])],[]⟩
def F196:DF:=pF N196 Tryz.f196
theorem F196_ok:prepF Tryz.prog N196 Tryz.f196=some F196:=by kernel_rfl
theorem F196_fn:FnOK2 Tryz.prog 196 (.pl F196):=.pl Tryz.func196 (by kernel_rfl) F196_ok
theorem F197_ok : prepF Tryz.prog ⟨[],[(0,[0,1]),(1,[4])],[]⟩ Tryz.f197 = some F197 := by kernel_rfl
theorem F197_fn:FnOK2 Tryz.prog 197 (.pl F197):=.pl Tryz.func197 (by kernel_rfl) F197_ok
theorem F198_ok : prepF Tryz.prog ⟨[],[(0,[0,1]),(1,[0,1,5]),(2,[0,1,5,16]),(3,[4]),(4,[0,1,5,24]),(5,[4]),(6,[0,1,5,31]),(7,[4]),(8,[0,1,5,36]),(9,[4]),(10,[0,1,5,6]),(11,[0,1,5,6,7]),(12,[0,1,5,6,7,8]),(13,[0,1,5,6,7,8,9]),(14,[0,1,5,6,7,8,9,10]),(15,[0,1,5,6,7,8,9,10,59]),(16,[0,1,5,6,7,8,9,10,64]),(17,[0,1,5,6,7,8,9,10,11]),(18,[0,1,5,6,7,8,9,10,11,73]),(19,[4]),(20,[0,1,5,6,7,8,9,10]),(21,[0,1,5,6,7,8,9,10,93]),(22,[4]),(23,[0,1,5,6,7,8,9,10]),(24,[0,1,5,6,7,8,9,10]),(25,[0,1,5,6,7,8,9,10,107]),(26,[8,12]),(27,[8,12,114]),(28,[4]),(29,[4]),(30,[0,1,5,6,7,8,9,10,132]),(31,[8,13]),(32,[8,13,139]),(33,[4]),(34,[4]),(35,[4]),(1000001,[0,1,5,6,7,8,9,10])],[]⟩ Tryz.f198 = some F198 := by kernel_rfl
theorem F198_fn:FnOK2 Tryz.prog 198 (.pl F198):=.pl Tryz.func198 (by kernel_rfl) F198_ok
abbrev N199:Note:=⟨[],[(0,[0]),(1,[0,4]),(2,[0,4,14]),(3,[4,16]),(4,[2,3]),(5,[2,3]),(6,[0,4,25]),(7,[2,3]),(8,[4,5]),(9,[4,5,34]),(10,[2,3]),(11,[2,3])],[]⟩
def F199:DF:=pF N199 Tryz.f199
theorem F199_ok:prepF Tryz.prog N199 Tryz.f199=some F199:=by kernel_rfl
theorem F199_fn:FnOK2 Tryz.prog 199 (.pl F199):=.pl Tryz.func199 (by kernel_rfl) F199_ok
abbrev N200:Note:=⟨[],[(0,[0,1]),(1,[3])],[]⟩
def F200:DF:=pF N200 Tryz.f200
theorem F200_ok:prepF Tryz.prog N200 Tryz.f200=some F200:=by kernel_rfl
theorem F200_fn:FnOK2 Tryz.prog 200 (.pl F200):=.pl Tryz.func200 (by kernel_rfl) F200_ok
theorem F201_ok : prepF Tryz.prog ⟨[],[(0,[0,2,3,4,10]),(1,[0,2,4,10,11]),(2,[0,2,4,10,11,20]),(3,[0,2,4,10,11,23]),(4,[0,2,4,10,11]),(5,[0,2,4,10,11]),(6,[0,2,4,10,11]),(7,[0,2,4,10,11]),(8,[]),(1000000,[0,2,4,10,11])],[]⟩ Tryz.f201 = some F201 := by kernel_rfl
theorem F201_fn:FnOK2 Tryz.prog 201 (.pl F201):=.pl Tryz.func201 (by kernel_rfl) F201_ok
theorem F204_ok : prepF Tryz.prog ⟨[],[(0,[0,1]),(1,[4])],[]⟩ Tryz.f204 = some F204 := by kernel_rfl
theorem F204_fn:FnOK2 Tryz.prog 204 (.pl F204):=.pl Tryz.func204 (by kernel_rfl) F204_ok
theorem F205_ok : prepF Tryz.prog ⟨[],[(0,[0,1]),(1,[0,1,7]),(2,[4]),(3,[4])],[]⟩ Tryz.f205 = some F205 := by kernel_rfl
theorem F205_fn:FnOK2 Tryz.prog 205 (.pl F205):=.pl Tryz.func205 (by kernel_rfl) F205_ok
abbrev N206:Note:=⟨[],[(0,[0]),(1,[0,4]),(2,[0,30]),(3,[0,5]),(4,[0,5,39]),(5,[0,5]),(6,[0,5,44]),(7,[2,3]),(8,[0,5,6]),(9,[5,6,47,48,49]),(10,[5,6,47,48,49,50]),(11,[5,6,8,47,48,49]),(12,[5,6,8,47,48,49]),(13,[5,6,8,47,48,49,56]),(14,[2,3]),(15,[5,6,47,48,49]),(16,[5,6,47,48,49]),(17,[6,66]),(18,[6]),(19,[2,3]),(20,[9,10]),(21,[2,3]),(1000000,[5,6,47,48,49])],[]⟩
def F206:DF:=pF N206 Tryz.f206
theorem F206_ok:prepF Tryz.prog N206 Tryz.f206=some F206:=by kernel_rfl
theorem F206_fn:FnOK2 Tryz.prog 206 (.pl F206):=.pl Tryz.func206 (by kernel_rfl) F206_ok
abbrev N207:Note:=⟨[],[(0,[0,1,2,3,4]),(1,[0,1,2,3,4,11]),(2,[0,1,2,3,4,11,12]),(3,[10]),(4,[0,1,2,3,4,11,19]),(5,[10]),(6,[0,1,2,3,4,11,26]),(7,[10]),(8,[0,1,3,4,34]),(9,[10]),(10,[10])],[]⟩
def F207:DF:=pF N207 Tryz.f207
theorem F207_ok:prepF Tryz.prog N207 Tryz.f207=some F207:=by kernel_rfl
theorem F207_fn:FnOK2 Tryz.prog 207 (.pl F207):=.pl Tryz.func207 (by kernel_rfl) F207_ok
abbrev N208:Note:=⟨[],[(0,[0,1]),(1,[4])],[]⟩
def F208:DF:=pF N208 Tryz.f208
theorem F208_ok:prepF Tryz.prog N208 Tryz.f208=some F208:=by kernel_rfl
theorem F208_fn:FnOK2 Tryz.prog 208 (.pl F208):=.pl Tryz.func208 (by kernel_rfl) F208_ok
abbrev N209:Note:=⟨[],[(0,[0]),(1,[0,10]),(2,[2,3]),(3,[2,3])],[]⟩
def F209:DF:=pF N209 Tryz.f209
theorem F209_ok:prepF Tryz.prog N209 Tryz.f209=some F209:=by kernel_rfl
theorem F209_fn:FnOK2 Tryz.prog 209 (.pl F209):=.pl Tryz.func209 (by kernel_rfl) F209_ok
abbrev N210:Note:=⟨[],[(0,[0,1]),(1,[4])],[]⟩
def F210:DF:=pF N210 Tryz.f210
theorem F210_ok:prepF Tryz.prog N210 Tryz.f210=some F210:=by kernel_rfl
theorem F210_fn:FnOK2 Tryz.prog 210 (.pl F210):=.pl Tryz.func210 (by kernel_rfl) F210_ok
abbrev N211:Note:=⟨[],[(0,[0]),(1,[0,4]),(2,[0,4,10]),(3,[2,3]),(4,[0,4,5]),(5,[0,2,4,5]),(6,[0,2,4,5,18]),(7,[2,3]),(8,[0,4,5,6]),(9,[0,4,5,6]),(10,[0,4,5,6,27]),(11,[0,4,5,6]),(12,[0,4,5,6,33]),(13,[0,4,5,35]),(14,[0,4,5]),(15,[2,3,4,5]),(16,[2,3,48]),(17,[2,3]),(18,[2,3]),(1000000,[0,4,5,6])],[]⟩
def F211:DF:=pF N211 Tryz.f211
theorem F211_ok:prepF Tryz.prog N211 Tryz.f211=some F211:=by kernel_rfl
theorem F211_fn:FnOK2 Tryz.prog 211 (.pl F211):=.pl Tryz.func211 (by kernel_rfl) F211_ok
abbrev N212:Note:=⟨[],[(0,[0,1]),(1,[0,1,11]),(2,[0,17]),(3,[4]),(4,[0,5]),(5,[0,5,6]),(6,[0,5,6,23]),(7,[0,5,6]),(8,[0,5,6,7]),(9,[0,5,7]),(10,[5,7,34]),(11,[5,7]),(12,[4]),(13,[4]),(14,[9]),(15,[4])],[]⟩
def F212:DF:=pF N212 Tryz.f212
theorem F212_ok:prepF Tryz.prog N212 Tryz.f212=some F212:=by kernel_rfl
theorem F212_fn:FnOK2 Tryz.prog 212 (.pl F212):=.pl Tryz.func212 (by kernel_rfl) F212_ok
theorem F213_ok : prepF Tryz.prog ⟨[],[(0,[0,1]),(1,[4])],[]⟩ Tryz.f213 = some F213 := by kernel_rfl
theorem F213_fn:FnOK2 Tryz.prog 213 (.pl F213):=.pl Tryz.func213 (by kernel_rfl) F213_ok
abbrev N215:Note:=⟨[],[(0,[0]),(1,[2])],[]⟩
def F215:DF:=pF N215 Tryz.f215
theorem F215_ok:prepF Tryz.prog N215 Tryz.f215=some F215:=by kernel_rfl
theorem F215_fn:FnOK2 Tryz.prog 215 (.pl F215):=.pl Tryz.func215 (by kernel_rfl) F215_ok
abbrev N216:Note:=⟨[],[(0,[0,1]),(1,[0,1,5,6]),(2,[0,1,5,6,7]),(3,[0,1,5,6,7,8]),(4,[0,1,5,6,7,8,9]),(5,[0,1,5,6,7,8,9,20]),(6,[0,1,5,6,7,8,9]),(7,[0,1,5,6,7,8,9]),(8,[0,1,5,6,7,8,39]),(9,[4]),(10,[0,1,5,6,7,8,10]),(11,[0,1,5,6,7,8,10,44]),(12,[0,1,5,6,7,8,10]),(13,[0,1,5,6,7,8,10]),(14,[0,1,5,6,7,8,10]),(15,[0,1,5,6,7,8,10]),(16,[0,1,5,6,7,8,10,77]),(17,[4]),(18,[4]),(1000000,[0,1,5,6,7,8,9]),(1000002,[0,1,5,6,7,8,10])],[]⟩
def F216:DF:=pF N216 Tryz.f216
theorem F216_ok:prepF Tryz.prog N216 Tryz.f216=some F216:=by kernel_rfl
theorem F216_fn:FnOK2 Tryz.prog 216 (.pl F216):=.pl Tryz.func216 (by kernel_rfl) F216_ok
abbrev N217:Note:=⟨[],[(0,[0,1]),(1,[0,1,11]),(2,[4]),(3,[0,1,5]),(4,[0,5,12,13]),(5,[0,5,12,13,14]),(6,[0,5,6,12,13]),(7,[0,5,7,12,13]),(8,[0,5,7,12,13,21]),(9,[4]),(10,[0,5,12,13]),(11,[0,5,12,13]),(12,[4]),(1000000,[0,5,12,13])],[]⟩
def F217:DF:=pF N217 Tryz.f217
theorem F217_ok:prepF Tryz.prog N217 Tryz.f217=some F217:=by kernel_rfl
theorem F217_fn:FnOK2 Tryz.prog 217 (.pl F217):=.pl Tryz.func217 (by kernel_rfl) F217_ok
theorem F218_ok : prepF Tryz.prog ⟨[],[(0,[0,1,2,3,10]),(1,[0,1,2,3,10,13]),(2,[0,1,2,3,10]),(3,[0,1,2,3,10]),(1000000,[0,1,2,3,10])],[]⟩ Tryz.f218 = some F218 := by kernel_rfl
theorem F218_fn:FnOK2 Tryz.prog 218 (.pl F218):=.pl Tryz.func218 (by kernel_rfl) F218_ok
abbrev N220:Note:=⟨[],[(0,[0,1,2]),(1,[0,1,2,13]),(2,[6,7]),(3,[0,1,2,8]),(4,[0,1,2,8,16]),(5,[0,1,2,8,16,17]),(6,[0,1,2,8]),(7,[0,1,2,8,21]),(8,[0,1,2]),(9,[0,1,2,8]),(10,[0,1,2,8]),(11,[2,7,8,9]),(12,[2,7,8,9,38]),(13,[6,7]),(14,[2,8,9,41]),(15,[2,8,9]),(16,[8,9,10]),(17,[8,9,10,52]),(18,[6,7]),(19,[8,9,10,62]),(20,[6,7]),(21,[8,11]),(22,[11,69]),(23,[11]),(24,[6,7])],[]⟩
def F220:DF:=pF N220 Tryz.f220
theorem F220_ok:prepF Tryz.prog N220 Tryz.f220=some F220:=by kernel_rfl
theorem F220_fn:FnOK2 Tryz.prog 220 (.pl F220):=.pl Tryz.func220 (by kernel_rfl) F220_ok
abbrev N221:Note:=⟨[],[(0,[0,1]),(1,[4])],[]⟩
def F221:DF:=pF N221 Tryz.f221
theorem F221_ok:prepF Tryz.prog N221 Tryz.f221=some F221:=by kernel_rfl
theorem F221_fn:FnOK2 Tryz.prog 221 (.pl F221):=.pl Tryz.func221 (by kernel_rfl) F221_ok
abbrev N222:Note:=⟨[],[(0,[0,1]),(1,[4])],[]⟩
def F222:DF:=pF N222 Tryz.f222
theorem F222_ok:prepF Tryz.prog N222 Tryz.f222=some F222:=by kernel_rfl
theorem F222_fn:FnOK2 Tryz.prog 222 (.pl F222):=.pl Tryz.func222 (by kernel_rfl) F222_ok
abbrev N223:Note:=⟨[],[(0,[0,1,2]),(1,[6])],[]⟩
def F223:DF:=pF N223 Tryz.f223
theorem F223_ok:prepF Tryz.prog N223 Tryz.f223=some F223:=by kernel_rfl
theorem F223_fn:FnOK2 Tryz.prog 223 (.pl F223):=.pl Tryz.func223 (by kernel_rfl) F223_ok
abbrev N224:Note:=⟨[],[(0,[0,1,2]),(1,[6])],[]⟩
def F224:DF:=pF N224 Tryz.f224
theorem F224_ok:prepF Tryz.prog N224 Tryz.f224=some F224:=by kernel_rfl
theorem F224_fn:FnOK2 Tryz.prog 224 (.pl F224):=.pl Tryz.func224 (by kernel_rfl) F224_ok
abbrev N225:Note:=⟨[9],[(0,[0]),(1,[0,4]),(2,[0,4,16]),(3,[2,3]),(4,[0,4,5]),(5,[0,4,5,6]),(6,[0,4,5,6,23]),(7,[0,7]),(8,[2,3]),(9,[0,4,5,6,8]),(10,[0,4,5,8,9]),(11,[0,5,8,9,45]),(12,[2,3]),(13,[0,5,8,9,10]),(14,[0,5,8,10,57]),(15,[2,3]),(16,[0,5,8,10,59]),(17,[2,3]),(18,[0,5,8,10,11]),(19,[0,5,8,10,11,75]),(20,[2,3]),(21,[0,5,10,11,77]),(22,[2,3]),(23,[5,10,11,12]),(24,[5,10,11,12,98]),(25,[2,3]),(26,[2,3])],[]⟩
def F225:DF:=pF N225 Tryz.f225
theorem F225_ok:prepF Tryz.prog N225 Tryz.f225=some F225:=by kernel_rfl
theorem F225_fn:FnOK2 Tryz.prog 225 (.pl F225):=.pl Tryz.func225 (by kernel_rfl) F225_ok
abbrev N226:Note:=⟨[],[(0,[0,1]),(1,[0,7]),(2,[0,7,8]),(3,[0,7,8,9]),(4,[0,7,8,9]),(5,[0,7,8,9,26]),(6,[0,7,8,9,33]),(7,[0,7,8,9,11]),(8,[0,7,8,9,11,43]),(9,[4]),(10,[0,7,8,9]),(11,[0,7,8,9,12]),(12,[0,7,8,9,12,51]),(13,[0,7,8,9,12]),(14,[0,7,8,9,12,64]),(15,[4]),(16,[0,7,8,9,10]),(17,[0,7,8,9,10]),(18,[0,7,8,9,98]),(19,[4]),(20,[8,9,13]),(21,[8,9,13,108]),(22,[4]),(23,[0,7,8,9,14]),(24,[0,7,8,9,14,15]),(25,[0,7,8,9,14,15,124]),(26,[0,7,8,9,14,15]),(27,[0,7,8,9,14,15,139]),(28,[0,7,8,9,14,15,16]),(29,[0,7,8,9,14,15,16,143]),(30,[0,7,8,9,14,15,16]),(31,[0,7,8,9,14,15,16,156]),(32,[4]),(33,[4]),(34,[0,1,160]),(35,[4]),(36,[0,1,171]),(37,[175]),(38,[175,176,177]),(39,[5,6,175]),(40,[5,175,181]),(41,[4]),(42,[4]),(43,[0,1,183]),(44,[4]),(1000001,[0,7,8,9]),(1000003,[0,7,8,9,12]),(1000005,[0,7,8,9,14,15]),(1000007,[0,7,8,9,14,15,16]),(1000009,[175])],[]⟩
def F226:DF:=pF N226 Tryz.f226
theorem F226_ok:prepF Tryz.prog N226 Tryz.f226=some F226:=by kernel_rfl
theorem F226_fn:FnOK2 Tryz.prog 226 (.pl F226):=.pl Tryz.func226 (by kernel_rfl) F226_ok
abbrev N227:Note:=⟨[],[(0,[0]),(1,[2])],[]⟩
def F227:DF:=pF N227 Tryz.f227
theorem F227_ok:prepF Tryz.prog N227 Tryz.f227=some F227:=by kernel_rfl
theorem F227_fn:FnOK2 Tryz.prog 227 (.pl F227):=.pl Tryz.func227 (by kernel_rfl) F227_ok
abbrev N228:Note:=⟨[],[(0,[0]),(1,[0,4]),(2,[2]),(3,[2])],[]⟩
def F228:DF:=pF N228 Tryz.f228
theorem F228_ok:prepF Tryz.prog N228 Tryz.f228=some F228:=by kernel_rfl
theorem F228_fn:FnOK2 Tryz.prog 228 (.pl F228):=.pl Tryz.func228 (by kernel_rfl) F228_ok
abbrev N229:Note:=⟨[],[(0,[0]),(1,[0,3]),(2,[2])],[]⟩
def F229:DF:=pF N229 Tryz.f229
theorem F229_ok:prepF Tryz.prog N229 Tryz.f229=some F229:=by kernel_rfl
theorem F229_fn:FnOK2 Tryz.prog 229 (.pl F229):=.pl Tryz.func229 (by kernel_rfl) F229_ok
abbrev N230:Note:=⟨[],[(0,[0,1,4]),(1,[0,1,4,20]),(2,[0,1,4,5]),(3,[0,1,4,5]),(4,[0,1,4,6,7]),(5,[0,1,4,6,8,9]),(6,[0,1,4,8,9,10,11]),(7,[0,1,4,8,10,11]),(8,[0,1,4,10,11]),(9,[0,1,4,10]),(10,[0,1,4]),(11,[0,1,4]),(12,[0,4,12]),(13,[0,4,12,99]),(14,[0,4,12,13]),(15,[0,4,12,13]),(16,[0,4,12,14,15]),(17,[0,4,12,14]),(18,[0,4,12]),(19,[0,4,12]),(20,[0,4,12,139]),(21,[0,4,12,16]),(22,[0,4,12,16]),(23,[0,4,12]),(24,[0,4,12]),(25,[0,12,161]),(26,[]),(1000000,[0,1,4])],[]⟩
def F230:DF:=pF N230 Tryz.f230
theorem F230_ok:prepF Tryz.prog N230 Tryz.f230=some F230:=by kernel_rfl
theorem F230_fn:FnOK2 Tryz.prog 230 (.pl F230):=.pl Tryz.func230 (by kernel_rfl) F230_ok
abbrev N231:Note:=⟨[],[(0,[0,1,2,3,4,10,11]),(1,[0,1,2,3,4,10,11,28]),(2,[0,1,2,3,4,10,11]),(3,[0,1,2,3,4,10,11,12]),(4,[0,1,2,3,4,10,11,12,13]),(5,[0,1,2,3,4,10,11,12,13,30]),(6,[0,1,2,3,4,10,11,12,13]),(7,[0,1,2,3,4,10,11,12,13,34]),(8,[0,1,2,3,4,10,11,12,13,14]),(9,[0,1,2,3,4,10,11,12,13,14,15]),(10,[0,1,3,4,10,11,12,13,14,15,16]),(11,[0,1,3,4,10,11,12,13,14,15,16,46]),(12,[0,1,3,4,10,11,12,13,14,15,16]),(13,[0,1,3,4,10,11,12,13,14,15,16]),(14,[0,1,3,4,10,11,12,13,14,15,16]),(15,[0,1,3,4,10,11,12,13]),(16,[0,3,4,10,11,12,13]),(17,[0,1,3,4,10,11,12,13,17]),(18,[0,1,3,4,10,11,12,13,17,68]),(19,[0,1,3,4,10,11,12,13,17]),(20,[0,1,3,4,10,11,12,13,17,18]),(21,[0,3,4,10,11,12,13,17,18]),(22,[0,1,3,4,10,11,12,13,17]),(23,[0,1,3,4,10,11,12,13]),(24,[0,3,4,10,11,12,13]),(25,[0,4,10,11,12,13,89]),(26,[0,4,10,11,12,13]),(27,[0,4,10,11,12,13]),(28,[0,10,11,12,13,94]),(29,[10,11]),(30,[10,11]),(1000000,[0,1,3,4,10,11,12,13,14,15,16]),(1000002,[0,1,3,4,10,11,12,13,17])],[]⟩
def F231:DF:=pF N231 Tryz.f231
theorem F231_ok:prepF Tryz.prog N231 Tryz.f231=some F231:=by kernel_rfl
theorem F231_fn:FnOK2 Tryz.prog 231 (.pl F231):=.pl Tryz.func231 (by kernel_rfl) F231_ok
abbrev N233:Note:=⟨[],[(0,[0]),(1,[0,4]),(2,[0,4,5]),(3,[0,4,5,12]),(4,[0,4,5]),(5,[0,4,5]),(6,[0,4,6,7]),(7,[4,6,7,8]),(8,[4,6,7,8,25]),(9,[4,6,7,8]),(10,[4,6,7,8,30]),(11,[4,6,7,8]),(12,[4,6,7,8]),(13,[2,3]),(1000000,[0,4,5]),(1000002,[4,6,7,8])],[]⟩
def F233:DF:=pF N233 Tryz.f233
theorem F233_ok:prepF Tryz.prog N233 Tryz.f233=some F233:=by kernel_rfl
theorem F233_fn:FnOK2 Tryz.prog 233 (.pl F233):=.pl Tryz.func233 (by kernel_rfl) F233_ok
abbrev N234:Note:=⟨[],[(0,[0]),(1,[0,3]),(2,[2]),(3,[0,13]),(4,[2]),(5,[0,24]),(6,[2]),(7,[2])],[]⟩
def F234:DF:=pF N234 Tryz.f234
theorem F234_ok:prepF Tryz.prog N234 Tryz.f234=some F234:=by kernel_rfl
theorem F234_fn:FnOK2 Tryz.prog 234 (.pl F234):=.pl Tryz.func234 (by kernel_rfl) F234_ok
abbrev N235:Note:=⟨[],[(0,[0,1,2]),(1,[0,1,2,19]),(2,[6,7]),(3,[0,1,2,8]),(4,[0,1,2,8,9]),(5,[6,7]),(6,[0,1,2,8,9,25]),(7,[0,2,8,9,32]),(8,[0,1,2,8,9]),(9,[0,1,2,8,9,37]),(10,[0,1,2,8,9]),(11,[0,1,2,8,9]),(12,[0,2,8,9,40]),(13,[0,1,2,8,9]),(14,[0,1,2,8,9]),(15,[0,2,8,9,52]),(16,[0,1,2,8,9]),(17,[0,1,2,8,9]),(18,[0,2,8,9,64]),(19,[0,1,2,8,9]),(20,[0,1,2,8,9]),(21,[0,1,2,8,9,77]),(22,[0,1,2,8,9]),(23,[0,1,2,8,9,83]),(24,[6,7]),(25,[0,1,2,8,9]),(26,[0,1,2,8,9,85]),(27,[0,1,2,8,9,10]),(28,[0,1,2,8,9,85,90]),(29,[0,1,2,8,9,10]),(30,[0,1,2,8,9,92]),(31,[0,1,2,8,9,10]),(32,[0,1,8,9,10,11]),(33,[0,1,8,9,10,11,12]),(34,[0,1,8,9,10,11,12,13]),(35,[1,8,9,10,11,12,13,99,100,101]),(36,[1,8,9,10,11,12,13,99,100,101,102]),(37,[1,8,9,10,11,12,13,15,99,100,101]),(38,[1,8,9,10,11,12,13,15,99,100,101]),(39,[6,7]),(40,[1,8,9,10,11,12,13,15,99,100,101,106]),(41,[1,8,9,10,11,12,13,99,100,101]),(42,[1,8,9,10,11,12,13,15,99,100,101,112]),(43,[1,8,9,10,11,12,13,16,99,100,101]),(44,[1,8,9,10,11,12,13,15,99,100,101,121]),(45,[1,8,9,10,11,12,13,16,99,100,101]),(46,[1,8,9,10,11,12,13,16,99,100,101,137]),(47,[6,7]),(48,[1,8,9,10,11,12,13,16,99,100,101,141]),(49,[6,7]),(50,[1,8,9,10,11,12,13,16,99,100,101]),(51,[1,8,9,10,11,12,13,17,99,100,101]),(52,[1,8,9,10,11,12,17,99,100,101,159]),(53,[6,7]),(54,[1,8,9,10,11,12,13,99,100,101]),(55,[1,8,9,10,11,12,13,99,100,101]),(56,[13,169]),(57,[6,7]),(58,[6,7]),(1000003,[1,8,9,10,11,12,13,99,100,101])],[]⟩
def F235:DF:=pF N235 Tryz.f235
theorem F235_ok:prepF Tryz.prog N235 Tryz.f235=some F235:=by kernel_rfl
theorem F235_fn:FnOK2 Tryz.prog 235 (.pl F235):=.pl Tryz.func235 (by kernel_rfl) F235_ok
abbrev N236:Note:=⟨[],[(0,[0]),(1,[0,6]),(2,[2]),(3,[0,3]),(4,[3]),(5,[2])],[]⟩
def F236:DF:=pF N236 Tryz.f236
theorem F236_ok:prepF Tryz.prog N236 Tryz.f236=some F236:=by kernel_rfl
theorem F236_fn:FnOK2 Tryz.prog 236 (.pl F236):=.pl Tryz.func236 (by kernel_rfl) F236_ok
abbrev N237:Note:=⟨[],[(0,[0]),(1,[2])],[]⟩
def F237:DF:=pF N237 Tryz.f237
theorem F237_ok:prepF Tryz.prog N237 Tryz.f237=some F237:=by kernel_rfl
theorem F237_fn:FnOK2 Tryz.prog 237 (.pl F237):=.pl Tryz.func237 (by kernel_rfl) F237_ok
abbrev N238:Note:=⟨[],[(0,[0,1]),(1,[4])],[]⟩
def F238:DF:=pF N238 Tryz.f238
theorem F238_ok:prepF Tryz.prog N238 Tryz.f238=some F238:=by kernel_rfl
theorem F238_fn:FnOK2 Tryz.prog 238 (.pl F238):=.pl Tryz.func238 (by kernel_rfl) F238_ok
abbrev N239:Note:=⟨[],[(0,[0]),(1,[0,3]),(2,[2]),(3,[10]),(4,[2]),(5,[2])],[]⟩
def F239:DF:=pF N239 Tryz.f239
theorem F239_ok:prepF Tryz.prog N239 Tryz.f239=some F239:=by kernel_rfl
theorem F239_fn:FnOK2 Tryz.prog 239 (.pl F239):=.pl Tryz.func239 (by kernel_rfl) F239_ok
abbrev N240:Note:=⟨[],[(0,[0]),(1,[2])],[]⟩
def F240:DF:=pF N240 Tryz.f240
theorem F240_ok:prepF Tryz.prog N240 Tryz.f240=some F240:=by kernel_rfl
theorem F240_fn:FnOK2 Tryz.prog 240 (.pl F240):=.pl Tryz.func240 (by kernel_rfl) F240_ok
abbrev N241:Note:=⟨[],[(0,[0,2]),(1,[0,2,4]),(2,[0]),(3,[0,2]),(4,[0,2,8]),(5,[0,2]),(6,[0,2]),(7,[0,2,14]),(8,[0,2]),(9,[0,2]),(10,[2])],[]⟩
def F241:DF:=pF N241 Tryz.f241
theorem F241_ok:prepF Tryz.prog N241 Tryz.f241=some F241:=by kernel_rfl
theorem F241_fn:FnOK2 Tryz.prog 241 (.pl F241):=.pl Tryz.func241 (by kernel_rfl) F241_ok
abbrev N242:Note:=⟨[],[(0,[0]),(1,[3]),(2,[2]),(3,[2])],[]⟩
def F242:DF:=pF N242 Tryz.f242
theorem F242_ok:prepF Tryz.prog N242 Tryz.f242=some F242:=by kernel_rfl
theorem F242_fn:FnOK2 Tryz.prog 242 (.pl F242):=.pl Tryz.func242 (by kernel_rfl) F242_ok
abbrev N243:Note:=⟨[],[(0,[0]),(1,[2])],[]⟩
def F243:DF:=pF N243 Tryz.f243
theorem F243_ok:prepF Tryz.prog N243 Tryz.f243=some F243:=by kernel_rfl
theorem F243_fn:FnOK2 Tryz.prog 243 (.pl F243):=.pl Tryz.func243 (by kernel_rfl) F243_ok
abbrev N244:Note:=⟨[],[(0,[0]),(1,[2]),(2,[2])],[]⟩
def F244:DF:=pF N244 Tryz.f244
theorem F244_ok:prepF Tryz.prog N244 Tryz.f244=some F244:=by kernel_rfl
theorem F244_fn:FnOK2 Tryz.prog 244 (.pl F244):=.pl Tryz.func244 (by kernel_rfl) F244_ok
abbrev N245:Note:=⟨[],[(0,[0]),(1,[2])],[]⟩
def F245:DF:=pF N245 Tryz.f245
theorem F245_ok:prepF Tryz.prog N245 Tryz.f245=some F245:=by kernel_rfl
theorem F245_fn:FnOK2 Tryz.prog 245 (.pl F245):=.pl Tryz.func245 (by kernel_rfl) F245_ok
abbrev N246:Note:=⟨[],[(0,[0]),(1,[0,3]),(2,[0,3,4]),(3,[0,3,4,18]),(4,[0,3,4]),(5,[0,3,4,5]),(6,[0,3,4,5,46]),(7,[0,4]),(8,[0,3,4]),(9,[0,3,4,5]),(10,[0,3,4,5,54]),(11,[0,3,4,5]),(12,[0,3,4,5,83]),(13,[0,3,4,5]),(14,[0,3,4,5,87]),(15,[0,4,5,89]),(16,[2]),(17,[0,3,4,5]),(18,[0,4,5,91]),(19,[2]),(20,[0,3,4,5]),(21,[2]),(1000000,[0,3,4,5])],[]⟩
def F246:DF:=pF N246 Tryz.f246
theorem F246_ok:prepF Tryz.prog N246 Tryz.f246=some F246:=by kernel_rfl
theorem F246_fn:FnOK2 Tryz.prog 246 (.pl F246):=.pl Tryz.func246 (by kernel_rfl) F246_ok
abbrev N247:Note:=⟨[],[(0,[0]),(1,[0,4]),(2,[2]),(3,[2])],[]⟩
def F247:DF:=pF N247 Tryz.f247
theorem F247_ok:prepF Tryz.prog N247 Tryz.f247=some F247:=by kernel_rfl
theorem F247_fn:FnOK2 Tryz.prog 247 (.pl F247):=.pl Tryz.func247 (by kernel_rfl) F247_ok
abbrev N248:Note:=⟨[],[(0,[0]),(1,[0,4]),(2,[2]),(3,[2])],[]⟩
def F248:DF:=pF N248 Tryz.f248
theorem F248_ok:prepF Tryz.prog N248 Tryz.f248=some F248:=by kernel_rfl
theorem F248_fn:FnOK2 Tryz.prog 248 (.pl F248):=.pl Tryz.func248 (by kernel_rfl) F248_ok
noncomputable def tab : List (Nat × DX) := [(3,.pl F3),(13,.pl F13),(15,.pl F15),(16,.pl F16),(17,.pl F17),(18,.pl F18),(19,.pl F19),(20,.pl F20),(21,.pl F21),(22,.pl F22),(23,.pl F23),(24,.pl F24),(25,.pl F25),(26,.pl F26),(28,.pl F28),(31,.pl F31),(32,.pl F32),(34,.pl F34),(37,.pl F37),(39,.pl F39),(41,.pl F41),(46,.pl F46),(47,.pl F47),(48,.pl F48),(49,.pl F49),(50,.pl F50),(51,.df F51),(52,.pl F52),(53,.pl F53),(54,.pl F54),(55,.pl F55),(56,.pl F56),(57,.pl F57),(58,.pl F58),(59,.pl F59),(64,.pl F64),(75,.pl F75),(79,.pl F79),(80,.pl F80),(81,.pl F81),(82,.pl F82),(83,.pl F83),(84,.pl F84),(85,.pl F85),(86,.pl F86),(87,.rc F87),(88,.pl F88),(89,.pl F89),(90,.pl F90),(91,.pl F91),(92,.pl F92),(93,.pl F93),(94,.pl F94),(95,.pl F95),(96,.pl F96),(97,.pl F97),(98,.pl F98),(99,.pl F99),(100,.pl F100),(101,.pl F101),(102,.pl F102),(103,.pl F103),(104,.pl F104),(112,.pl F112),(113,.pl F113),(128,.pl F128),(129,.pl F129),(130,.pl F130),(131,.pl F131),(132,.pl F132),(133,.pl F133),(134,.pl F134),(135,.pl F135),(136,.pl F136),(137,.pl F137),(138,.pl F138),(139,.pl F139),(140,.pl F140),(141,.pl F141),(142,.pl F142),(143,.pl F143),(144,.pl F144),(145,.pl F145),(150,.pl F150),(159,.pl F159),(160,.pl F160),(161,.pl F161),(162,.pl F162),(163,.pl F163),(164,.pl F164),(165,.pl F165),(166,.pl F166),(167,.pl F167),(168,.pl F168),(169,.pl F169),(170,.pl F170),(171,.pl F171),(172,.pl F172),(173,.pl F173),(174,.pl F174),(175,.pl F175),(176,.pl F176),(180,.pl F180),(181,.pl F181),(185,.pl F185),(186,.pl F186),(187,.pl F187),(188,.pl F188),(189,.pl F189),(190,.pl F190),(191,.pl F191),(192,.pl F192),(193,.pl F193),(194,.pl F194),(195,.pl F195),(196,.pl F196),(197,.pl F197),(198,.pl F198),(199,.pl F199),(200,.pl F200),(201,.pl F201),(204,.pl F204),(205,.pl F205),(206,.pl F206),(207,.pl F207),(208,.pl F208),(209,.pl F209),(210,.pl F210),(211,.pl F211),(212,.pl F212),(213,.pl F213),(215,.pl F215),(216,.pl F216),(217,.pl F217),(218,.pl F218),(220,.pl F220),(221,.pl F221),(222,.pl F222),(223,.pl F223),(224,.pl F224),(225,.pl F225),(226,.pl F226),(227,.pl F227),(228,.pl F228),(229,.pl F229),(230,.pl F230),(231,.pl F231),(233,.pl F233),(234,.pl F234),(235,.pl F235),(236,.pl F236),(237,.pl F237),(238,.pl F238),(239,.pl F239),(240,.pl F240),(241,.pl F241),(242,.pl F242),(243,.pl F243),(244,.pl F244),(245,.pl F245),(246,.pl F246),(247,.pl F247),(248,.pl F248)]
theorem tabOK : TabOK2 Tryz.prog tab :=
 .cons F3_fn <|
 .cons F13_fn <|
 .cons F15_fn <|
 .cons F16_fn <|
 .cons F17_fn <|
 .cons F18_fn <|
 .cons F19_fn <|
 .cons F20_fn <|
 .cons F21_fn <|
 .cons F22_fn <|
 .cons F23_fn <|
 .cons F24_fn <|
 .cons F25_fn <|
 .cons F26_fn <|
 .cons F28_fn <|
 .cons F31_fn <|
 .cons F32_fn <|
 .cons F34_fn <|
 .cons F37_fn <|
 .cons F39_fn <|
 .cons F41_fn <|
 .cons F46_fn <|
 .cons F47_fn <|
 .cons F48_fn <|
 .cons F49_fn <|
 .cons F50_fn <|
 .cons F51_fn <|
 .cons F52_fn <|
 .cons F53_fn <|
 .cons F54_fn <|
 .cons F55_fn <|
 .cons F56_fn <|
 .cons F57_fn <|
 .cons F58_fn <|
 .cons F59_fn <|
 .cons F64_fn <|
 .cons F75_fn <|
 .cons F79_fn <|
 .cons F80_fn <|
 .cons F81_fn <|
 .cons F82_fn <|
 .cons F83_fn <|
 .cons F84_fn <|
 .cons F85_fn <|
 .cons F86_fn <|
 .cons F87_fn <|
 .cons F88_fn <|
 .cons F89_fn <|
 .cons F90_fn <|
 .cons F91_fn <|
 .cons F92_fn <|
 .cons F93_fn <|
 .cons F94_fn <|
 .cons F95_fn <|
 .cons F96_fn <|
 .cons F97_fn <|
 .cons F98_fn <|
 .cons F99_fn <|
 .cons F100_fn <|
 .cons F101_fn <|
 .cons F102_fn <|
 .cons F103_fn <|
 .cons F104_fn <|
 .cons F112_fn <|
 .cons F113_fn <|
 .cons F128_fn <|
 .cons F129_fn <|
 .cons F130_fn <|
 .cons F131_fn <|
 .cons F132_fn <|
 .cons F133_fn <|
 .cons F134_fn <|
 .cons F135_fn <|
 .cons F136_fn <|
 .cons F137_fn <|
 .cons F138_fn <|
 .cons F139_fn <|
 .cons F140_fn <|
 .cons F141_fn <|
 .cons F142_fn <|
 .cons F143_fn <|
 .cons F144_fn <|
 .cons F145_fn <|
 .cons F150_fn <|
 .cons F159_fn <|
 .cons F160_fn <|
 .cons F161_fn <|
 .cons F162_fn <|
 .cons F163_fn <|
 .cons F164_fn <|
 .cons F165_fn <|
 .cons F166_fn <|
 .cons F167_fn <|
 .cons F168_fn <|
 .cons F169_fn <|
 .cons F170_fn <|
 .cons F171_fn <|
 .cons F172_fn <|
 .cons F173_fn <|
 .cons F174_fn <|
 .cons F175_fn <|
 .cons F176_fn <|
 .cons F180_fn <|
 .cons F181_fn <|
 .cons F185_fn <|
 .cons F186_fn <|
 .cons F187_fn <|
 .cons F188_fn <|
 .cons F189_fn <|
 .cons F190_fn <|
 .cons F191_fn <|
 .cons F192_fn <|
 .cons F193_fn <|
 .cons F194_fn <|
 .cons F195_fn <|
 .cons F196_fn <|
 .cons F197_fn <|
 .cons F198_fn <|
 .cons F199_fn <|
 .cons F200_fn <|
 .cons F201_fn <|
 .cons F204_fn <|
 .cons F205_fn <|
 .cons F206_fn <|
 .cons F207_fn <|
 .cons F208_fn <|
 .cons F209_fn <|
 .cons F210_fn <|
 .cons F211_fn <|
 .cons F212_fn <|
 .cons F213_fn <|
 .cons F215_fn <|
 .cons F216_fn <|
 .cons F217_fn <|
 .cons F218_fn <|
 .cons F220_fn <|
 .cons F221_fn <|
 .cons F222_fn <|
 .cons F223_fn <|
 .cons F224_fn <|
 .cons F225_fn <|
 .cons F226_fn <|
 .cons F227_fn <|
 .cons F228_fn <|
 .cons F229_fn <|
 .cons F230_fn <|
 .cons F231_fn <|
 .cons F233_fn <|
 .cons F234_fn <|
 .cons F235_fn <|
 .cons F236_fn <|
 .cons F237_fn <|
 .cons F238_fn <|
 .cons F239_fn <|
 .cons F240_fn <|
 .cons F241_fn <|
 .cons F242_fn <|
 .cons F243_fn <|
 .cons F244_fn <|
 .cons F245_fn <|
 .cons F246_fn <|
 .cons F247_fn <|
 .cons F248_fn <|
  .nil
end
end Go.Proofs.C1

namespace Go.Proofs.YthgidapmofcloaaGreatDoor
open Go.RowKit Go.Extern.Stop Go.Stop Go.Extern
set_option maxRecDepth 100000 in
theorem as_nil (t:Value) (w:World):Calls Tryz.prog 74 #[.nilIface,t] w fun e w'=>e=.returned (.bool false)∧w'=w:=by
 go_enter Tryz.func74,Tryz.ntmps74
 go_wp2
 go_ret
 exact⟨rfl,rfl⟩
namespace Pr
theorem valueOf107 (t:Addr) (w:World):(ReflectliteValue.unpack (.iface 107 (.pointer (some t)))).run Tryz.prog w
  = .ok (.agg #[.pointer (some ⟨9,107,none⟩),.pointer (some ⟨w.heap.size,0,none⟩),.int .u64 150]) (w.alloc (.cells #[.pointer (some t)] 107)):=by kernel_rfl
theorem type107 (a : Addr) (w : World) : (ReflectliteValue.methodAny (ReflectliteValue.valueError "reflectlite.Value.Type" 0) (fun t _ _ _ => ReflectliteType.toType t) #[.agg #[.pointer (some ⟨9, 107, none⟩), .pointer (some a), .int .u64 150]]).run Tryz.prog w
  = .ok (.iface 187 (.agg #[.pointer (some ⟨9,107,none⟩)])) w:=by kernel_rfl
theorem methodKind (h : Value) (w : World) : (Go.method 391 187 (.agg #[h]) "Kind").run Tryz.prog w = .ok (263, h) w := by kernel_rfl
theorem kind107 (w:World):((ReflectliteType.abiMethod fun t=>(fun a:Nat=>Value.int IntKind.u8 (a:Int)) <$> Rtype.kind t) #[.pointer (some ⟨9,107,none⟩)]).run Tryz.prog w=.ok (.int .u8 22) w:=by kernel_rfl
theorem kind105 (w:World):((ReflectliteType.abiMethod fun t=>(fun a:Nat=>Value.int IntKind.u8 (a:Int)) <$> Rtype.kind t) #[.pointer (some ⟨9,105,none⟩)]).run Tryz.prog w=.ok (.int .u8 22) w:=by kernel_rfl
theorem rlm (z:Sem Value) (f:TypeId→Addr→Nat→Nat→Sem Value) (v:Value) :
  ReflectliteValue.method z f #[v]=(do match ←ReflectliteValue.parts v with | none=>z | some (t,a,fl)=>f t a fl (fl % 32)):=rfl
theorem parts107 (a:Addr) (w:World):(ReflectliteValue.parts (.agg #[.pointer (some ⟨9,107,none⟩),.pointer (some a),.int .u64 150])).run Tryz.prog w=.ok (some (107,a,150)) w:=by kernel_rfl
theorem isNil107 (a p:Addr) (W:World) (ha:W.cell? a=some (.pointer (some p))) :
  (ReflectliteValue.method (ReflectliteValue.valueError "reflectlite.Value.IsNil" 0) ReflectliteValue.isNil #[.agg #[.pointer (some ⟨9, 107, none⟩), .pointer (some a), .int .u64 150]]).run Tryz.prog W = .ok (.bool false) W := by
 rw [rlm]
 simp only [Sem.run_bind,parts107,Result.andThen]
 simp [ReflectliteValue.isNil,loadVar,isAgg,underlying,Tryz.underlying107,ha,Result.andThen]
theorem methodElem (h : Value) (w : World) : (Go.method 391 187 (.agg #[h]) "Elem").run Tryz.prog w = .ok (276, .agg #[h]) w := by kernel_rfl
theorem methodImplements (h : Value) (w : World) : (Go.method 391 187 (.agg #[h]) "Implements").run Tryz.prog w = .ok (277, .agg #[h]) w := by kernel_rfl
theorem methodAssignableTo (h : Value) (w : World) : (Go.method 391 187 (.agg #[h]) "AssignableTo").run Tryz.prog w = .ok (274, .agg #[h]) w := by kernel_rfl
theorem elem107 (w:World):(ReflectliteType.method ReflectliteType.elem #[.agg #[.pointer (some ⟨9,107,none⟩)]]).run Tryz.prog w=.ok (.iface 187 (.agg #[.pointer (some ⟨9,105,none⟩)])) w:=by kernel_rfl
theorem implements105 (w : World) : (ReflectliteType.relation "Implements" ReflectliteType.implements_ #[.agg #[.pointer (some ⟨9, 105, none⟩)], .iface 187 (.agg #[.pointer (some ⟨9, 32, none⟩)])]).run Tryz.prog w = .ok (.bool true) w := by kernel_rfl
theorem typeOf105 (v:Value) (w:World):(ReflectliteType.typeOf #[.iface 105 v]).run Tryz.prog w=.ok (.iface 187 (.agg #[.pointer (some ⟨9,105,none⟩)])) w:=by kernel_rfl
theorem assignable105 (w : World) : (ReflectliteType.relation "AssignableTo" ReflectliteType.assignableTo #[.agg #[.pointer (some ⟨9, 105, none⟩)], .iface 187 (.agg #[.pointer (some ⟨9, 105, none⟩)])]).run Tryz.prog w = .ok (.bool true) w := by kernel_rfl
theorem valueOf105 (e:Addr) (w:World):(ReflectliteValue.unpack (.iface 105 (.pointer (some e)))).run Tryz.prog w
  = .ok (.agg #[.pointer (some ⟨9,105,none⟩),.pointer (some ⟨w.heap.size,0,none⟩),.int .u64 150]) (w.alloc (.cells #[.pointer (some e)] 105)):=by kernel_rfl
theorem elemOf107 (w:World):(Rtype.elem? 107).run Tryz.prog w=.ok (some 105) w:=by kernel_rfl
theorem mk105 (p:Addr) (w:World):(ReflectliteValue.mk 105 p ReflectliteValue.flagAddr).run Tryz.prog w=.ok (.agg #[.pointer (some ⟨9,105,none⟩),.pointer (some p),.int .u64 406]) w:=by kernel_rfl
theorem elemV107 (a p:Addr) (W:World) (ha:W.cell? a=some (.pointer (some p))) :
  (ReflectliteValue.method (ReflectliteValue.valueError "reflectlite.Value.Elem" 0) ReflectliteValue.elem #[.agg #[.pointer (some ⟨9, 107, none⟩), .pointer (some a), .int .u64 150]]).run Tryz.prog W
   = .ok (.agg #[.pointer (some ⟨9,105,none⟩),.pointer (some p),.int .u64 406]) W:=by
 rw [rlm]
 simp only [Sem.run_bind,parts107,Result.andThen]
 simp [ReflectliteValue.elem,loadVar,isAgg,underlying,Tryz.underlying107,ha,Result.andThen,elemOf107,mk105]
theorem rls (v x:Value):ReflectliteValue.set #[v,x]=(do
  let (some (dst,a,fl),some (src,b,_)):=(←ReflectliteValue.parts v,←ReflectliteValue.parts x)
   | unsupported (.noEntry "extern/(internal/reflectlite.Value).Set.zeroValue")
  if fl / ReflectliteValue.flagAddr % 2 == 0 then unsupported (.noEntry "extern/(internal/reflectlite.Value).Set.unaddressable")
  let val ←loadVar src b
  if ←Rtype.directlyAssignable dst src then storeVar dst a val
  else if ←Rtype.implements dst src then
   if (←Rtype.kind src) == 20 then
    match val with
    | .nilIface => unsupported (.noEntry "extern/reflectlite: a nil value of one interface type handed on as a value of another")
    | _=>storeVar dst a val
   else storeVar dst a (.iface src val)
  else panicString ("reflectlite.Set: value of type " ++ (← Rtype.spelt src) ++ " is not assignable to type " ++ (← Rtype.spelt dst))
  pure (.tuple #[])):=rfl
theorem parts105a (a:Addr) (w:World):(ReflectliteValue.parts (.agg #[.pointer (some ⟨9,105,none⟩),.pointer (some a),.int .u64 406])).run Tryz.prog w=.ok (some (105,a,406)) w:=by kernel_rfl
theorem parts105 (a:Addr) (w:World):(ReflectliteValue.parts (.agg #[.pointer (some ⟨9,105,none⟩),.pointer (some a),.int .u64 150])).run Tryz.prog w=.ok (some (105,a,150)) w:=by kernel_rfl
theorem direct105 (w:World):(Rtype.directlyAssignable 105 105).run Tryz.prog w=.ok true w:=by kernel_rfl
theorem set105 (ta b e:Addr) (old:Value) (W:World) (hb:W.cell? b=some (.pointer (some e))) (ht:W.cell? ta=some old) (hf:W.frozen? ta=false) :
  (ReflectliteValue.set #[.agg #[.pointer (some ⟨9,105,none⟩),.pointer (some ta),.int .u64 406],.agg #[.pointer (some ⟨9,105,none⟩),.pointer (some b),.int .u64 150]]).run Tryz.prog W
   = .ok (.tuple #[]) (W.setCell ta (.pointer (some e))):=by
 rw [rls]
 simp only [Sem.run_bind,parts105a,parts105,Result.andThen]
 simp [ReflectliteValue.flagAddr,loadVar,isAgg,underlying,Tryz.underlying105,hb,Result.andThen,direct105,storeVar,Value.cells,storeCells,Addr.add]
 rw [run_store Tryz.prog W ta _ _ (by rfl)]
 simp [ht,hf]
end Pr
set_option maxHeartbeats 4000000 in
set_option maxRecDepth 100000 in
theorem as_hit (e t:Addr) (old:Value) (w:World) (hg:w.cell? ⟨0,0,none⟩=some (.iface 187 (.agg #[.pointer (some ⟨9,32,none⟩)]))) (ht0:w.cell? t=some old) (hf0:w.frozen? t=false) :
  Calls Tryz.prog 74 #[.iface 105 (.pointer (some e)),.iface 107 (.pointer (some t))] w fun ev w'=>ev=.returned (.bool true)∧w'=((((w.alloc (.cells #[.pointer (some t)] 107)).alloc (.cells #[.pointer (some ⟨9,107,none⟩),.pointer (some ⟨w.heap.size,0,none⟩),.int .u64 150] 149)).alloc (.cells #[.pointer (some ⟨9,107,none⟩),.pointer (some ⟨w.heap.size,0,none⟩),.int .u64 150] 149)).alloc (.cells #[.pointer (some e)] 105)).setCell t (.pointer (some e)):=by
 have h6:=@run_callFunc_extern Tryz.prog 122 _ (fun args=>ReflectliteValue.unpack (args.getD 0 (.tuple #[]))) Tryz.func122 (by kernel_rfl) (by kernel_rfl) (by kernel_rfl) (by kernel_rfl)
 have h7 := @run_callFunc_extern Tryz.prog 123 _ (ReflectliteValue.methodAny (ReflectliteValue.valueError "reflectlite.Value.Type" 0) (fun t _ _ _ => ReflectliteType.toType t)) Tryz.func123 (by kernel_rfl) (by kernel_rfl) (by kernel_rfl) (by kernel_rfl)
 have h8 := @run_callFunc_extern Tryz.prog 124 _ (ReflectliteValue.method (ReflectliteValue.valueError "reflectlite.Value.IsNil" 0) ReflectliteValue.isNil) Tryz.func124 (by kernel_rfl) (by kernel_rfl) (by kernel_rfl) (by kernel_rfl)
 have h27:=@run_callFunc_extern Tryz.prog 263 _ (ReflectliteType.abiMethod fun t=>do pure (.int .u8 (←Rtype.kind t))) Tryz.func263 (by kernel_rfl) (by kernel_rfl) (by kernel_rfl) (by kernel_rfl)
 have h37:=@run_callFunc_extern Tryz.prog 276 _ (ReflectliteType.method ReflectliteType.elem) Tryz.func276 (by kernel_rfl) (by kernel_rfl) (by kernel_rfl) (by kernel_rfl)
 have h38 := @run_callFunc_extern Tryz.prog 277 _ (ReflectliteType.relation "Implements" ReflectliteType.implements_) Tryz.func277 (by kernel_rfl) (by kernel_rfl) (by kernel_rfl) (by kernel_rfl)
 have h10:=@run_callFunc_extern Tryz.prog 126 _ ReflectliteType.typeOf Tryz.func126 (by kernel_rfl) (by kernel_rfl) (by kernel_rfl) (by kernel_rfl)
 have h35 := @run_callFunc_extern Tryz.prog 274 _ (ReflectliteType.relation "AssignableTo" ReflectliteType.assignableTo) Tryz.func274 (by kernel_rfl) (by kernel_rfl) (by kernel_rfl) (by kernel_rfl)
 have h11 := @run_callFunc_extern Tryz.prog 157 _ (ReflectliteValue.method (ReflectliteValue.valueError "reflectlite.Value.Elem" 0) ReflectliteValue.elem) Tryz.func157 (by kernel_rfl) (by kernel_rfl) (by kernel_rfl) (by kernel_rfl)
 have h12:=@run_callFunc_extern Tryz.prog 158 _ ReflectliteValue.set Tryz.func158 (by kernel_rfl) (by kernel_rfl) (by kernel_rfl) (by kernel_rfl)
 have tO:=Pr.typeOf105
 have mA:=Pr.methodAssignableTo
 have a25:=Pr.assignable105
 have v25:=Pr.valueOf105
 have f6:=Pr.valueOf107
 have f7:=Pr.type107
 have mK:=Pr.methodKind
 have mE:=Pr.methodElem
 have mI:=Pr.methodImplements
 have k27:=Pr.kind107
 have k25:=Pr.kind105
 have e27:=Pr.elem107
 have i25:=Pr.implements105
 have n8:=Pr.isNil107 ⟨w.heap.size,0,none⟩ t ((w.alloc (.cells #[.pointer (some t)] 107)).alloc (.cells #[.pointer (some ⟨9,107,none⟩),.pointer (some ⟨w.heap.size,0,none⟩),.int .u64 150] 149)) (by simp)
 have hlt:0<w.heap.size:=by
  rcases Nat.eq_zero_or_pos w.heap.size with h0 | h
  ·simp [World.cell?,h0] at hg
  ·exact h
 have hg2:((w.alloc (.cells #[.pointer (some t)] 107)).alloc (.cells #[.pointer (some ⟨9,107,none⟩),.pointer (some ⟨w.heap.size,0,none⟩),.int .u64 150] 149)).cell? ⟨0,0,none⟩=some (.iface 187 (.agg #[.pointer (some ⟨9,32,none⟩)])):=by
  rw [World.cell?_alloc_lt _ _ ⟨0,0,none⟩ (by simp),World.cell?_alloc_lt _ _ ⟨0,0,none⟩ hlt];exact hg
 have htl:t.block<w.heap.size:=by
  rcases Nat.lt_or_ge t.block w.heap.size with h | h
  ·exact h
  ·simp [World.cell?,Array.getElem?_eq_none h] at ht0
 have el:=Pr.elemV107 ⟨w.heap.size,0,none⟩ t (((w.alloc (.cells #[.pointer (some t)] 107)).alloc (.cells #[.pointer (some ⟨9,107,none⟩),.pointer (some ⟨w.heap.size,0,none⟩),.int .u64 150] 149)).alloc (.cells #[.pointer (some ⟨9,107,none⟩),.pointer (some ⟨w.heap.size,0,none⟩),.int .u64 150] 149)) (by rw [World.cell?_alloc_lt _ _ ⟨w.heap.size,0,none⟩ (by simp;omega)];simp)
 have st:=Pr.set105 t ⟨w.heap.size+1+1+1,0,none⟩ e old ((((w.alloc (.cells #[.pointer (some t)] 107)).alloc (.cells #[.pointer (some ⟨9,107,none⟩),.pointer (some ⟨w.heap.size,0,none⟩),.int .u64 150] 149)).alloc (.cells #[.pointer (some ⟨9,107,none⟩),.pointer (some ⟨w.heap.size,0,none⟩),.int .u64 150] 149)).alloc (.cells #[.pointer (some e)] 105))
  (by rw [World.cell?_alloc_at _ _ _ _ (by simp)];rfl)
  (by rw [World.cell?_alloc_lt _ _ t (by simp;omega),World.cell?_alloc_lt _ _ t (by simp;omega),World.cell?_alloc_lt _ _ t (by simp;omega),World.cell?_alloc_lt _ _ t htl];exact ht0)
  (by rw [World.frozen?_alloc_old _ _ t (by simp;omega),World.frozen?_alloc_old _ _ t (by simp;omega),World.frozen?_alloc_old _ _ t (by simp;omega),World.frozen?_alloc_old _ _ t (Nat.ne_of_lt htl)];exact hf0)
 go_enter Tryz.func74,Tryz.ntmps74
 go_wp2
 refine wp_loop_rounds 1 ?_
 rw [rounds_succ]
 go_wp2
 go_ret
 exact⟨rfl,rfl⟩
namespace Pr
theorem typeOf26 (v:Value) (w:World):(ReflectliteType.typeOf #[.iface 26 v]).run Tryz.prog w=.ok (.iface 187 (.agg #[.pointer (some ⟨9,26,none⟩)])) w:=by kernel_rfl
theorem comparable26 (w : World) : ((ReflectliteType.method fun t => do Rtype.noPackHeld "Comparable" t; (fun a => Value.bool a.comparable) <$> typeInfo t) #[.agg #[.pointer (some ⟨9, 26, none⟩)]]).run Tryz.prog w = .ok (.bool true) w := by kernel_rfl
theorem methodComparable (v : Value) (w : World) : (Go.method 391 187 v "Comparable").run Tryz.prog w = .ok (275, v) w := by kernel_rfl
theorem noIs (v:Value) (xT:TypeId) (w:World):(Instr.typeAssert (.iface 105 v) xT 199 true).run Tryz.prog w=.ok (.tuple #[.nilIface,.bool false]) w:=run_typeAssert_lacksB Tryz.underlying199 (by kernel_rfl) (by kernel_rfl) v xT w
theorem hasUnwrap (v:Value) (xT:TypeId) (w:World):(Instr.typeAssert (.iface 105 v) xT 194 true).run Tryz.prog w=.ok (.tuple #[.iface 105 v,.bool true]) w:=run_typeAssert_hasB Tryz.underlying194 (by kernel_rfl) v xT w
theorem methodUnwrap (v : Value) (w : World) : (Go.method 391 105 v "Unwrap").run Tryz.prog w = .ok (269, v) w := by kernel_rfl
end Pr
end Go.Proofs.YthgidapmofcloaaGreatDoor

namespace Go.Proofs.YthgidapmofcloaaGreatDoor
open Go.RowKit Go.Extern.Stop Go.Stop Go.Extern
theorem Pr.comp26:(Tryz.prog.info? 26).map (·.comparable)=some true:=by kernel_rfl
set_option maxHeartbeats 4000000 in
set_option maxRecDepth 100000 in
theorem is_hit (pb po:Nat) (m:Int) (w:World) (h1:w.cell? ⟨pb,po+1,none⟩=some (.int .i64 m)) :
  Calls Tryz.prog 76 #[.iface 105 (.pointer (some ⟨pb,po,none⟩)),.iface 26 (.int .i64 m)] w fun e w'=>e=.returned (.bool true)∧w'=w:=by
 have h8:=@run_callFunc_extern Tryz.prog 126 _ Extern.ReflectliteType.typeOf Tryz.func126 (by kernel_rfl) (by kernel_rfl) (by kernel_rfl) (by kernel_rfl)
 have h32 := @run_callFunc_extern Tryz.prog 275 _ (Extern.ReflectliteType.method fun t => do Rtype.noPackHeld "Comparable" t; pure (.bool (← typeInfo t).comparable)) Tryz.func275 (by kernel_rfl) (by kernel_rfl) (by kernel_rfl) (by kernel_rfl)
 have tT:=Pr.typeOf26
 have cT:=Pr.comparable26
 have mR:=Pr.methodComparable
 have nE:=Pr.noIs
 have uW:=Pr.hasUnwrap
 have mU:=Pr.methodUnwrap
 have heq:=Go.Lib.run_eql_iface_int (P:=Tryz.prog) w (k:=.i64) m m Tryz.underlying32 Pr.comp26 Tryz.underlying26
 have hty:=run_eql_iface_types (P:=Tryz.prog) 105 26 (.pointer (some ⟨pb,po,none⟩)) (.int .i64 m) Tryz.underlying32 (by decide) w
 rw [beq_self_eq_true] at heq
 go_enter Tryz.func76,Tryz.ntmps76
 go_wp2
 refine wp_loop_rounds 2 ?_
 rw [rounds_succ]
 go_wp2
 rw [rounds_succ]
 go_wp2
 go_ret
 exact⟨rfl,rfl⟩
abbrev pows:List Int:=[1,10,100,1000,10000,100000,1000000,10000000,100000000,1000000000,10000000000,100000000000,1000000000000,10000000000000,100000000000000,1000000000000000,10000000000000000,100000000000000000,1000000000000000000,10000000000000000000]
abbrev powsA:List Dn.AV:=[.int .u64 1,.int .u64 10,.int .u64 100,.int .u64 1000,.int .u64 10000,.int .u64 100000,.int .u64 1000000,.int .u64 10000000,.int .u64 100000000,.int .u64 1000000000,.int .u64 10000000000,.int .u64 100000000000,.int .u64 1000000000000,.int .u64 10000000000000,.int .u64 100000000000000,.int .u64 1000000000000000,.int .u64 10000000000000000,.int .u64 100000000000000000,.int .u64 1000000000000000000,.int .u64 10000000000000000000]
theorem powsA_eq:powsA=pows.map (Dn.AV.int .u64):=rfl
abbrev gtT:Dn.GT:=[(6,powsA),(0,[.raw (.iface 187 (.agg #[.pointer (some ⟨9,32,none⟩)]))])]
theorem gtT_cell {S:Dn.St} {G:Dn.Gh} {w:World} (hI:Dn.Inv Tryz.prog gtT S G w):w.cell? ⟨0,0,none⟩=some (.iface 187 (.agg #[.pointer (some ⟨9,32,none⟩)])):=by
 obtain⟨_,c,ty,fr,h1,h2⟩:=hI.glob 0 _ rfl
 simp only [Dn.Rl,Dn.Rv] at h2
 obtain⟨v,r,e1,⟨rfl,_⟩,rfl⟩:=h2
 obtain⟨c⟩:=c
 simp only at e1
 subst e1
 simp [World.cell?,h1]
theorem setCell_wBlk {w:World} {b off:Nat} {c:Array Value} {ty:TypeId} {fr:Nat×Nat} (v:Value) (h:w.heap[b]? = some (.cells c ty fr)):w.setCell ⟨b,off,none⟩ v=Dn.wBlk w b (.cells (c.setIfInBounds off v) ty fr):=by
 have hlt:=Dn.lt_of_some h
 simp only [World.setCell,Dn.wBlk]
 congr 1
 apply Array.ext_getElem?
 intro j
 by_cases e:j=b
 ·subst e;rw [Array.getElem?_modify,if_pos rfl,h];simp [hlt]
 ·rw [Array.getElem?_setIfInBounds_ne (Ne.symm e),Array.getElem?_modify,if_neg (Ne.symm e)]
theorem body74:Dn.HasBody Tryz.prog 74:=⟨_,Tryz.func74,by kernel_rfl,by kernel_rfl⟩
theorem body76:Dn.HasBody Tryz.prog 76:=⟨_,Tryz.func76,by kernel_rfl,by kernel_rfl⟩
theorem primAs:Dn.PrimOK Tryz.prog gtT 74 (.errAs 105 107):=by
 intro xs S v S' h
 refine⟨body74,fun G w args hI hx=>?_⟩
 unfold Dn.primV at h
 split at h<;>try (rename_i e1;cases e1;done)
 ·rename_i e1
  cases e1
  simp only [Dn.Rl] at hx
  obtain⟨u,r,rfl,hu,t,r,rfl,ht,rfl⟩:=hx
  simp only [Dn.Rv] at hu
  subst hu
  cases h
  exact (as_nil t w).mono fun e w' ⟨h1,h2⟩=>by
   subst h1;subst h2
   exact⟨_,_,_,⟨rfl,rfl⟩,Dn.Tr.refl hI,by simp only [Dn.Rv]⟩
 ·rename_i t tp t' id off tp' tid e1
  cases e1
  cases hb:(Nat.beq 105 t' && Nat.beq 107 tp') with
  | false=>rw [hb] at h;cases h
  | true =>
   rw [hb] at h
   simp only [cond_true] at h
   simp only [Bool.and_eq_true] at hb
   obtain rfl:=Nat.eq_of_beq_eq_true hb.1
   obtain rfl:=Nat.eq_of_beq_eq_true hb.2
   split at h
   ·rename_i ty a hbx
    cases h
    simp only [Dn.Rl,Dn.Rv] at hx
    obtain⟨u,r,rfl,hu,t,r,rfl,ht,rfl⟩:=hx
    obtain⟨_,rfl,hid,rfl⟩:=hu
    obtain⟨_,rfl,htid,rfl⟩:=ht
    obtain⟨_,c,fr,sf,pre,rest,hw,hfr,hcl,hpre⟩:=hI.box tid ty _ hbx
    simp only [Dn.Rl] at hpre
    obtain⟨u0,r,rfl,_,rfl⟩:=hpre
    have hsz:0<c.size:=by rw [←Array.length_toList,hcl];simp
    have hc0:c[0]? = some u0:=by rw [←Array.getElem?_toList,hcl];rfl
    refine (as_hit ⟨G.β id,off,none⟩ ⟨G.β tid,0,none⟩ u0 w (gtT_cell hI) (by simp [World.cell?,hw,hc0]) (by simp only [World.frozen?,hw];exact hfr.free hsz)).mono fun e w' ⟨h1,h2⟩=>?_
    subst h1
    generalize hW:(((w.alloc (.cells #[.pointer (some ⟨G.β tid,0,none⟩)] 107)).alloc (.cells #[.pointer (some ⟨9,107,none⟩),.pointer (some ⟨w.heap.size,0,none⟩),.int .u64 150] 149)).alloc (.cells #[.pointer (some ⟨9,107,none⟩),.pointer (some ⟨w.heap.size,0,none⟩),.int .u64 150] 149)).alloc (.cells #[.pointer (some ⟨G.β id,off,none⟩)] 105)=W at h2
    have hgr:Dn.Gr w W:=by
     subst hW
     exact (((Dn.Gr.push _ _).trans (Dn.Gr.push _ _)).trans (Dn.Gr.push _ _)).trans (Dn.Gr.push _ _)
    clear hW
    have t1:=Dn.Tr.gr hI hgr
    have hw2:W.heap[G.β tid]? = some (.cells c ty fr):=by rw [hgr.same _ (hI.boxLt tid htid)];exact hw
    rw [setCell_wBlk _ hw2] at h2
    have t2:=Dn.Tr.boxSet t1.inv (c':=c.setIfInBounds 0 (.pointer (some ⟨G.β id,off,none⟩))) (cs':=[.ptr id off]) (pre':=[.pointer (some ⟨G.β id,off,none⟩)]) (rest:=rest) hbx hw2 (by simp) (by simp [hcl]) (by
     refine⟨_,_,rfl,?_,rfl⟩
     simp only [Dn.Rv]
     exact⟨hid,trivial⟩)
    subst h2
    exact⟨_,_,_,⟨rfl,rfl⟩,t1.trans t2,by simp only [Dn.Rv]⟩
   ·cases h
 ·cases h
theorem primIs:Dn.PrimOK Tryz.prog gtT 76 (.errIs 105 26):=by
 intro xs S v S' h
 refine⟨body76,fun G w args hI hx=>?_⟩
 unfold Dn.primV at h
 split at h<;>try (rename_i e1;cases e1;done)
 ·rename_i t ti t' id off ti' n e1
  cases e1
  cases hb:(Nat.beq 105 t' && Nat.beq 26 ti') with
  | false=>rw [hb] at h;cases h
  | true =>
   rw [hb] at h
   simp only [cond_true] at h
   simp only [Bool.and_eq_true] at hb
   obtain rfl:=Nat.eq_of_beq_eq_true hb.1
   obtain rfl:=Nat.eq_of_beq_eq_true hb.2
   split at h
   ·rename_i ty cs hbx
    split at h
    ·rename_i m hm
     cases hmn:m == n with
     | false=>rw [hmn] at h;cases h
     | true =>
      rw [hmn] at h
      cases h
      obtain rfl:=eq_of_beq hmn
      simp only [Dn.Rl,Dn.Rv] at hx
      obtain⟨u,r,rfl,hu,t,r,rfl,ht,rfl⟩:=hx
      obtain⟨_,rfl,hid,rfl⟩:=hu
      obtain⟨_,rfl,rfl⟩:=ht
      obtain⟨_,c,fr,sf,pre,rest,hw,hfr,hcl,hpre⟩:=hI.box id ty cs hbx
      have hc1:c[off+1]? = some (.int .i64 m):=by
       rw [←Array.getElem?_toList,hcl]
       obtain⟨y,hy1,hy2⟩:=Dn.Rl.get hpre hm
       simp only [Dn.Rv] at hy2
       subst hy2
       have q:off+1<pre.length:=by
        rcases Nat.lt_or_ge (off+1) pre.length with q | q
        ·exact q
        ·rw [List.getElem?_eq_none q] at hy1;cases hy1
       rw [List.getElem?_append_left q]
       exact hy1
      refine (is_hit (G.β id) off m w (by simp [World.cell?,hw,hc1])).mono fun e w' ⟨h1,h2⟩=>?_
      subst h1;subst h2
      exact⟨_,_,_,⟨rfl,rfl⟩,Dn.Tr.refl hI,by simp only [Dn.Rv]⟩
    ·cases h
   ·cases h
 ·cases h
theorem prims:Dn.PrimsOK Tryz.prog gtT [(74,.errAs 105 107),(76,.errIs 105 26)]:=.cons primAs (.cons primIs .nil)
end Go.Proofs.YthgidapmofcloaaGreatDoor

namespace Go.Proofs.YthgidapmofcloaaGreatDoor
open Go.ChangeShapes Go.WideShapes Go.ChangeAt Go.RowKit
abbrev laid:List (String×DataW Unit):=Rows.treeRunsRow.laid
theorem own:ownKnob Tryz.prog.godebug=none:=by kernel_rfl
theorem globET : Tryz.prog.globalNamed "errors.errorType" = some 0 := by kernel_rfl
theorem rtypeIs : (Tryz.prog.cutTypes.find? (·.1 == "internal/reflectlite.rtype")).map (·.2) = some 187 := by kernel_rfl
theorem oneRow:((List.range 291).filter fun t=>Tryz.prog.rowNamed t [101,114,114,111,114])=[32]:=by kernel_rfl
theorem typesSize:Tryz.prog.types.size=291:=by kernel_rfl
theorem handle_of_laid {W : World} (h : laidMetH Tryz.prog laid W) : W.var? Tryz.prog "errors.errorType" = some #[.iface 187 (.agg #[.pointer (some ⟨9, 32, none⟩)])] := by
 have h' : laidMet Tryz.prog (laid.filter fun x => x.2.handleName?.isNone) W ∧ handlesMet Tryz.prog [("errors.errorType", Rows.laid_errors_errorType)] W := h
 obtain⟨name,u,ty,e1,e2,e3,e4,e5⟩:=h'.2 _ (List.mem_singleton.2 rfl)
 have en:name=[101,114,114,111,114]:=(Option.some.inj e1).symm
 subst en
 obtain rfl:=Option.some.inj (rtypeIs.symm.trans e2)
 have hm:ty∈(List.range 291).filter fun t=>Tryz.prog.rowNamed t [101,114,114,111,114]:=List.mem_filter.2 ⟨List.mem_range.2 (by rw [←typesSize];exact e3),e4⟩
 rw [oneRow] at hm
 obtain rfl:=List.mem_singleton.1 hm
 have hh:typeHandle Tryz.prog 32=.pointer (some ⟨9,32,none⟩):=by kernel_rfl
 rw [hh] at e5
 exact e5
theorem globPow : Tryz.prog.globalNamed "internal/strconv.uint64pow10" = some 6 := by kernel_rfl
theorem typePow:(Tryz.prog.globals[6]?).map (·.type)=some 256:=by kernel_rfl
theorem undPow:Tryz.prog.underlying 256=some (.array 20 212):=by kernel_rfl
theorem undU64:Tryz.prog.underlying 212=some (.int .u64):=by kernel_rfl
theorem pow_of_laid {W : World} (h : laidMetH Tryz.prog laid W) : Lib.TabIs Tryz.prog W "internal/strconv.uint64pow10" .u64 pows := by
 have h' : laidMet Tryz.prog (laid.filter fun x => x.2.handleName?.isNone) W ∧ handlesMet Tryz.prog [("errors.errorType", Rows.laid_errors_errorType)] W := h
 exact Lib.tabIs_of_head globPow typePow undPow undU64 (by kernel_rfl) (by kernel_rfl) (laidMet.tail (laidMet.tail h'.1))
theorem inv_of_laid {W:World} (h:laidMetH Tryz.prog laid W):Dn.Inv Tryz.prog gtT Dn.St.init (Dn.G0 W) W:=by
 refine Dn.inv0g fun g cs hg=>?_
 rw [Dn.lk_cons] at hg
 by_cases e:6=g
 ·rw [if_pos e] at hg
  subst e
  cases hg
  have hv:=pow_of_laid h
  simp only [Lib.TabIs,World.var?,globPow,Option.bind_some] at hv
  split at hv
  ·rename_i c ty fr hw
   cases hv
   refine⟨_,ty,fr,hw,?_⟩
   rw [powsA_eq]
   generalize pows=l
   induction l with
   | nil=>exact Dn.Rl.nil
   | cons a r ih=>exact Dn.Rl.cons (by simp only [Dn.Rv]) ih
  ·cases hv
 ·rw [if_neg e,Dn.lk_cons] at hg
  by_cases e0:0=g
  ·rw [if_pos e0] at hg
   subst e0
   cases hg
   have hv:=handle_of_laid h
   simp only [World.var?,globET,Option.bind_some] at hv
   split at hv
   ·rename_i c ty fr hw
    cases hv
    refine⟨_,ty,fr,hw,Dn.Rl.single ?_⟩
    simp only [Dn.Rv]
    exact⟨trivial,rfl⟩
   ·cases hv
  ·rw [if_neg e0] at hg
   cases hg
noncomputable def handW (os:Os):World :=
 { World.holding Tryz.prog os ⟨#[],#[],[]⟩ with heap:=(World.holding Tryz.prog os ⟨#[],#[],[]⟩).heap.modify 0 fun
   |.cells _ t frozen=>.cells #[.iface 187 (.agg #[.pointer (some ⟨9,32,none⟩)])] t frozen
   | o=>o }
abbrev plain:List (String×DataW Unit):=laid.filter fun x=>x.2.handleName?.isNone
noncomputable def laidW (os:Os):World:=(handW os).layVars Tryz.prog plain
theorem laidW_os (os:Os):(laidW os).os=os:=World.layVars_os _ _ _
theorem laidW_fits (os:Os):(handW os).layFits Tryz.prog plain []=true:=by kernel_rfl
theorem laidW_ifaces (os:Os):(handW os).layIfaces Tryz.prog plain (laidW os)=true:=by kernel_rfl
theorem laidW_hand (os:Os):(laid.filter fun x=>x.2.handleName?.isSome).all (handleAtB Tryz.prog (laidW os))=true:=by kernel_rfl
theorem laidW_met (os:Os) (args:Array Value):laidMetH Tryz.prog laid ((laidW os).forCall (fun _ _=>0) ⟨#[],args,[]⟩).memory:=by
 have e1:(plain.filter fun x=>(plain.map (·.1)).contains x.1)=plain:=List.filter_eq_self.2 fun x hx=>List.contains_iff_mem.2 (List.mem_map.2 ⟨x,hx,rfl⟩)
 have e2:(plain.filter fun x=>!(plain.map (·.1)).contains x.1)=[]:=List.filter_eq_nil_iff.2 fun x hx=>by rw [List.contains_iff_mem.2 (List.mem_map.2 ⟨x,hx,rfl⟩)];simp
 have h:laidMet Tryz.prog plain (laidW os):=laidMet_layVars (w0:=handW os) (plain.map (·.1)) [] (by rw [e1];rfl) (by rw [e1];exact laidW_fits os) (by rw [e1];exact laidW_ifaces os) (by rw [e2];exact LaidIn.none)
 have h2:laidMetH Tryz.prog laid (laidW os):=laidMetH_of_parts h (laidW_hand os)
 exact h2.of_heap (by simp [World.memory,World.forCall,Input.heap])
set_option maxRecDepth 1000000 in
theorem ran:Dn.exec2 gtT (fun f=>Dn.lk [(74,Dn.PrimK.errAs 105 107),(76,Dn.PrimK.errIs 105 26)] f) (fun f=>Dn.lk C1.tab f) 100000 200 3 [] Dn.St.init Dn.retTrue=true:=by kernel_rfl
end Go.Proofs.YthgidapmofcloaaGreatDoor

namespace Go.Proofs.YthgidapmofcloaaGreatDoor
open Go.Dn Go.RowKit
theorem rv_str {S:St} {G:Gh} {w:World} {s:List UInt8}:Rv S G w (.str s) (.string ⟨s.toArray⟩):=by simp only [Rv]
theorem hbTL:HasBody Tryz.prog 162:=⟨_,Tryz.func162,by kernel_rfl,by kernel_rfl⟩
theorem hbTR:HasBody Tryz.prog 163:=⟨_,Tryz.func163,by kernel_rfl,by kernel_rfl⟩
theorem hbTT:HasBody Tryz.prog 169:=⟨_,Tryz.func169,by kernel_rfl,by kernel_rfl⟩
theorem hbAI:HasBody Tryz.prog 187:=⟨_,Tryz.func187,by kernel_rfl,by kernel_rfl⟩
theorem hbIA:HasBody Tryz.prog 165:=⟨_,Tryz.func165,by kernel_rfl,by kernel_rfl⟩
theorem sh_trimL {cs:List UInt8} (hc:cs.length<4294967281) (ha:∀b∈cs,b.toNat<128) (s:List UInt8):PF (AC Tryz.prog gtT) 162 [.str s,.str cs] (.str (trimL cs s)) :=
 PF.of_calls hbTL (fun S G w vs h=>rl_str2 h) (fun S G w=>rv_str) fun w =>
  Any.strings_TrimLeft_laid Tryz.lays161 (by kernel_rfl) ⟨s.toArray⟩ ⟨cs.toArray⟩ w hc fun j b h=>ha b (List.mem_of_getElem? h)
theorem sh_trimR {cs:List UInt8} (hc:cs.length<4294967281) (ha:∀b∈cs,b.toNat<128) (s:List UInt8) (hs:s.length<9223372036854775807):PF (AC Tryz.prog gtT) 163 [.str s,.str cs] (.str (trimR cs s)) :=
 PF.of_calls hbTR (fun S G w vs h=>rl_str2 h) (fun S G w=>rv_str) fun w =>
  Any.strings_TrimRight_laid Tryz.lays162 (by kernel_rfl) ⟨s.toArray⟩ ⟨cs.toArray⟩ w (Nat.le_of_lt hs) hc fun j b h=>ha b (List.mem_of_getElem? h)
theorem sh_trim {cs:List UInt8} (hc:cs.length<4294967281) (ha:∀b∈cs,b.toNat<128) (s:List UInt8) (hs:s.length<9223372036854775807):PF (AC Tryz.prog gtT) 169 [.str s,.str cs] (.str (trimA cs s)) :=
 PF.of_calls hbTT (fun S G w vs h=>rl_str2 h) (fun S G w=>rv_str) fun w =>
  Any.strings_Trim_laid Tryz.lays160 (by kernel_rfl) ⟨s.toArray⟩ ⟨cs.toArray⟩ w (Nat.le_of_lt hs) hc fun j b h=>ha b (List.mem_of_getElem? h)
theorem decFrom_val (l:List UInt8):∀(a:Nat),l.all dig=true→Lib.decFrom a l=some (valB a l):=by
 induction l with
 | nil=>intro a _;rfl
 | cons b r ih =>
  intro a h
  rw [List.all_cons,bA] at h
  have hb:=h.1
  simp only [dig,bA,decide_eq_true_eq] at hb
  have hd:Lib.digitVal b=some (b.toNat-48):=if_pos hb
  unfold Lib.decFrom
  rw [hd]
  exact ih _ h.2
theorem atoi_val (l:List UInt8) (h:l.all dig=true) (h1:1≤l.length):Lib.atoi l=some (valB 0 l:Int):=by
 cases l with
 | nil=>simp at h1
 | cons b r =>
  have hb:=h
  simp only [List.all_cons,bA,dig,decide_eq_true_eq] at hb
  have n1:(b == 45)=false:=by
   cases hh:(b == 45) with
   | false=>rfl
   | true=>rw [beq_iff_eq] at hh;subst hh;exact absurd hb.1.1 (by decide)
  have n2:(b == 43)=false:=by
   cases hh:(b == 43) with
   | false=>rfl
   | true=>rw [beq_iff_eq] at hh;subst hh;exact absurd hb.1.1 (by decide)
  simp only [Lib.atoi,n1,n2,Bool.false_eq_true,if_false,Lib.decNat,List.isEmpty_cons]
  rw [decFrom_val _ 0 h];rfl
theorem sh_atoi (s:List UInt8) (h:s.all dig=true) (h1:1≤s.length) (h2:s.length≤18):PF (AC Tryz.prog gtT) 187 [.str s] (.tup [.int .i64 (valB 0 s),.nilif]) :=
 PF.of_calls hbAI (fun S G w vs h=>rl_str1 h) (v:=.tuple #[.int .i64 (valB 0 s),.nilIface]) (fun S G w=>by
   simp only [Rv]
   exact⟨_,rfl,Rl.cons (by simp only [Rv]) (Rl.cons (by simp only [Rv]) Rl.nil)⟩) fun w =>
  (Any.strconv_Atoi Tryz.lays172 ⟨s.toArray⟩ (valB 0 s) h2 (atoi_val s h h1) w).mono fun e w' ⟨h1,t,h2⟩=>⟨h1,by rw [h2];exact Joins.below_bytesWorld _ _ _ _ (Nat.le_refl _)⟩
theorem decB_dec:∀n:Nat,Lib.decDigits n=decB n:=fun n=>by
 induction n using Nat.strongRecOn with
 | _ n ih =>
  unfold Lib.decDigits decB
  split
  ·rfl
  ·rw [ih (n / 10) (by omega)]
theorem itoa_eq (n:Int):Lib.itoa n=itoaB n:=by unfold Lib.itoa itoaB;rw [decB_dec,decB_dec]
theorem pows_tab:Lib.pow10Tab=pows:=by decide
theorem tab_of_inv {S : St} {G : Gh} {w : World} (hI : Inv Tryz.prog gtT S G w) : Lib.TabIs Tryz.prog w "internal/strconv.uint64pow10" .u64 Lib.pow10Tab := by
 rw [pows_tab]
 obtain⟨_,c,ty,fr,h1,h2⟩:=hI.glob 6 powsA rfl
 have:c=(pows.map fun z=>Value.int .u64 z).toArray:=by
  rw [powsA_eq] at h2
  obtain⟨c⟩:=c
  simp only at h2
  congr 1
  clear h1
  revert h2
  generalize pows=l
  induction l generalizing c with
  | nil=>intro h2;simpa only [List.map_nil,Rl] using h2
  | cons a r ih =>
   intro h2
   simp only [List.map_cons,Rl,Rv] at h2
   obtain⟨v,q,rfl,rfl,h3⟩:=h2
   rw [List.map_cons,ih q h3]
 rw [this] at h1
 simp only [Lib.TabIs,World.var?,globPow,Option.bind_some,h1]
theorem rl_int1 {S:St} {G:Gh} {w:World} {k:IntKind} {n:Int} {vs:List Value} (h:Rl S G w [.int k n] vs):vs=[.int k n]:=by
 simp only [Rl,Rv] at h
 obtain⟨v,r,rfl,rfl,rfl⟩:=h
 rfl
theorem sh_itoa (n:Int) (h1:-999999≤n) (h2:n≤999999):PF (AC Tryz.prog gtT) 165 [.int .i64 n] (.str (itoaB n)) :=
 PF.of_callsI hbIA (fun S G w vs h=>rl_int1 h) (v:=.string ⟨(Lib.itoa n).toArray⟩) (fun S G w=>by rw [itoa_eq];exact rv_str) fun S G w hI =>
  (Any.strconv_Itoa Tryz.lays171M n (by omega) (by omega) w (tab_of_inv hI)).mono fun e w' ⟨h1,k,os,h2⟩=>⟨h1,by rw [h2];exact Lib.below_grow _ _ (Nat.le_refl _) _ _⟩
end Go.Proofs.YthgidapmofcloaaGreatDoor

namespace Go.Proofs.YthgidapmofcloaaGreatDoor.Fn
open Go.ChangeShapes Go.WideShapes Go.ChangeAt Go.RowKit Go.Dn
abbrev A:CallT:=AC Tryz.prog gtT
theorem hm:MonoC A:=AC_mono
theorem gtSta:GtSta gtT:=fun g cs h=>by
 rw [lk_cons] at h
 by_cases e:6=g
 ·rw [if_pos e] at h
  cases h
  rw [powsA_eq]
  generalize pows=l
  induction l with
  | nil=>exact trivial
  | cons a r ih=>exact⟨trivial,ih⟩
 ·rw [if_neg e,lk_cons] at h
  by_cases e0:0=g
  ·rw [if_pos e0] at h
   cases h
   exact⟨trivial,trivial⟩
  ·rw [if_neg e0] at h
   cases h
theorem pf {f : FuncId} {fn : Func} {n : Note} {F : DF} {us : List AV} {u : AV} (hf : Tryz.prog.funcs[f]? = some fn) (hn : (fn.name == "runtime.NumGoroutine") = false) (hp : prepF Tryz.prog n fn = some F) (hs : Stas us) (hw : wpF gtT A F us St.init (Ret u)) : PF A f us u :=
 PF.of_init gtSta hs (AC_intro Tryz.checked.mixed hf hn hp hw)
theorem s1 {a:AV} (h:Sta a):Stas [a]:=⟨h,trivial⟩
theorem s2 {a b:AV} (h:Sta a) (k:Sta b):Stas [a,b]:=⟨h,k,trivial⟩
theorem s3 {a b c:AV} (h:Sta a) (k:Sta b) (l:Sta c):Stas [a,b,c]:=⟨h,k,l,trivial⟩
theorem sK (l:List (List UInt8)):Sta (.sl 1 stat (strs l)):=sta_sl (sta_strs l)
theorem indT {Q:PT→Prop} (h:∀t,(∀u,u.n<t.n→Q u)→Q t) (t:PT):Q t:=(measure PT.n).wf.induction t h
theorem size3:∀(t:PT) (m:Int),m<4611686018427387904→PF A 28 [encT t,.int .i64 m] (.int .i64 (Dn.size3 t m)) :=
 indT fun t ih m h=>pf Tryz.func28 (by kernel_rfl) C1.F28_ok (s2 (sta_T t) trivial) (size3_wp hm (fun u hu m h=>ih u hu m h) h)
theorem small (t:PT):PF A 26 [encT t] (.bool (smallB t)) :=
 pf Tryz.func26 (by kernel_rfl) C1.F26_ok (s1 (sta_T t)) (small_wp hm size3)
theorem copy3:∀t:PT,t.ok→PF A 37 [encT t] (encT t) :=
 indT fun t ih h=>pf Tryz.func37 (by kernel_rfl) C1.F37_ok (s1 (sta_T t)) (copy3_wp hm ih h)
theorem own3 (t:PT) (h:t.ok):A 37 [encT t] St.init (OwnT t) :=
 AC_intro Tryz.checked.mixed Tryz.func37 (by kernel_rfl) C1.F37_ok (copy3Own_wp hm copy3 h)
theorem plain:∀t u:PT,t.ok→PF A 32 [encT t,encT u] (.bool (eqT t u)) :=
 indT fun t ih u h=>pf Tryz.func32 (by kernel_rfl) C1.F32_ok (s2 (sta_T t) (sta_T u)) (plain_wp hm ih h)
theorem hpre0 (s:List UInt8) (c:UInt8):PF A 204 [.str s,.str [c]] (.bool (hd c s)) :=
 pf Tryz.func204 (by kernel_rfl) C1.F204_ok (s2 trivial trivial) hasPre0_wp
theorem hpre (s:List UInt8) (c:UInt8):PF A 185 [.str s,.str [c]] (.bool (hd c s)) :=
 pf Tryz.func185 (by kernel_rfl) C1.F185_ok (s2 trivial trivial) (hasPre_wp hm hpre0)
theorem tpre0 (s:List UInt8) (c:UInt8):PF A 205 [.str s,.str [c]] (.str (if hd c s then s.drop 1 else s)) :=
 pf Tryz.func205 (by kernel_rfl) C1.F205_ok (s2 trivial trivial) (trimPre0_wp hm hpre0)
theorem tpre (s:List UInt8) (c:UInt8):PF A 186 [.str s,.str [c]] (.str (if hd c s then s.drop 1 else s)) :=
 pf Tryz.func186 (by kernel_rfl) C1.F186_ok (s2 trivial trivial) (trimPre_wp hm tpre0)
theorem digit (b:UInt8):PF A 195 [.int .u8 b.toNat] (.bool (dig b)) :=
 pf Tryz.func195 (by kernel_rfl) C1.F195_ok (s1 trivial) digit_wp
theorem run (s:List UInt8) (h:s.length<9223372036854775807):PF A 164 [.str s] (.int .i64 (runB s)) :=
 pf Tryz.func164 (by kernel_rfl) C1.F164_ok (s1 trivial) (run_wp hm digit h)
theorem cut (s:List UInt8) (h:s.length<9223372036854775807):PF A 160 [.str s] (encCut (cutB s)) :=
 pf Tryz.func160 (by kernel_rfl) C1.F160_ok (s1 trivial) (cut_wp hm hpre tpre run h)
theorem ascii {cs:List UInt8} (h:cs.all (fun b=>decide (b.toNat<128))=true):∀b∈cs,b.toNat<128:=fun b hb=>of_decide_eq_true (List.all_eq_true.1 h b hb)
theorem tl48 (s:List UInt8):PF A 162 [.str s,.str [48]] (.str (trimL [48] s)):=sh_trimL (by decide) (ascii (by decide)) s
theorem tr48 (s:List UInt8) (h:s.length<9223372036854775807):PF A 163 [.str s,.str [48]] (.str (trimR [48] s)):=sh_trimR (by decide) (ascii (by decide)) s h
theorem exponent (e:List UInt8) (h:(expT e).all dig=true):PF A 161 [.str e] (encExp (expB e)) :=
 pf Tryz.func161 (by kernel_rfl) C1.F161_ok (s1 trivial) (exponent_wp hm hpre (fun s=>sh_trimL (by decide) (ascii (by decide)) s) tl48 sh_atoi h)
theorem split (s:List UInt8) (h:s.length<9223372036854775807):PF A 132 [.str s] (encSplit (splitB s)) :=
 pf Tryz.func132 (by kernel_rfl) C1.F132_ok (s1 trivial) (split_wp hm cut exponent tl48 tr48 h)
theorem join (p:Parts3) (h:p.2.1.length≤1000):PF A 133 [encP p] (encJoin (joinB p)) :=
 pf Tryz.func133 (by kernel_rfl) C1.F133_ok (s1 ⟨trivial,trivial,trivial,trivial⟩) (join_wp hm run sh_itoa h)
theorem normal (s:List UInt8) (h:s.length<4294967281):PF A 81 [.str s] (encJoin (normB s)) :=
 pf Tryz.func81 (by kernel_rfl) C1.F81_ok (s1 trivial) (normal_wp hm split join (by omega))
theorem two (s:List UInt8):PF A 166 [.str s] (.int .i64 (twoB s)) :=
 pf Tryz.func166 (by kernel_rfl) C1.F166_ok (s1 trivial) two_wp
theorem within (s:List UInt8) (lo hi:Int):PF A 167 [.str s,.int .i64 lo,.int .i64 hi] (.bool (withinB s lo hi)) :=
 pf Tryz.func167 (by kernel_rfl) C1.F167_ok (s3 trivial trivial trivial) (within_wp hm two)
theorem days (y m:Int):PF A 168 [.int .i64 y,.int .i64 m] (.int .i64 (daysB y m)) :=
 pf Tryz.func168 (by kernel_rfl) C1.F168_ok (s2 trivial trivial) days_wp
theorem date (s:List UInt8):PF A 134 [.str s] (.bool (dateB s)) :=
 pf Tryz.func134 (by kernel_rfl) C1.F134_ok (s1 trivial) (date_wp hm two within days)
theorem clock (s:List UInt8) (h:s.length<9223372036854775807):PF A 135 [.str s] (.bool (clockB s)) :=
 pf Tryz.func135 (by kernel_rfl) C1.F135_ok (s1 trivial) (clock_wp hm within (fun s h=>sh_trim (by decide) (ascii (by decide)) s h) h)
theorem hsuf0 (s:List UInt8) (c:UInt8) (h:s.length<9223372036854775807):PF A 197 [.str s,.str [c]] (.bool (tl c s)) :=
 pf Tryz.func197 (by kernel_rfl) C1.F197_ok (s2 trivial trivial) (hasSuf0_wp h)
theorem hsuf (s:List UInt8) (c:UInt8) (h:s.length<9223372036854775807):PF A 170 [.str s,.str [c]] (.bool (tl c s)) :=
 pf Tryz.func170 (by kernel_rfl) C1.F170_ok (s2 trivial trivial) (hasSuf_wp hm hsuf0 h)
theorem zone (s:List UInt8) (h:s.length<9223372036854775807):PF A 136 [.str s] (encZ (zoneB s)) :=
 pf Tryz.func136 (by kernel_rfl) C1.F136_ok (s1 trivial) (zone_wp hm hsuf within h)
theorem idxByte (s:List UInt8) (c:UInt8):PF A 213 [.str s,.int .u8 c.toNat] (.int .i64 (idxB c s 0)) :=
 pf Tryz.func213 (by kernel_rfl) C1.F213_ok (s2 trivial trivial) idxByte_wp
theorem idx1 (s:List UInt8):PF A 198 [.str s,.str [84]] (.int .i64 (idxB 84 s 0)) :=
 pf Tryz.func198 (by kernel_rfl) C1.F198_ok (s2 trivial trivial) (idx1_wp hm idxByte)
theorem cutL (s:List UInt8) (h:s.length<4294967281):PF A 171 [.str s,.str [84]] (.tup [.str (cutC 84 s).1,.str (cutC 84 s).2.1,.bool (cutC 84 s).2.2]) :=
 pf Tryz.func171 (by kernel_rfl) C1.F171_ok (s2 trivial trivial) (cutL_wp hm idx1 (by omega))
theorem cutS (s:List UInt8) (h:s.length<4294967281):PF A 137 [.str s,.str [84]] (.tup [.str (cutC 84 s).1,.str (cutC 84 s).2.1,.bool (cutC 84 s).2.2]) :=
 pf Tryz.func137 (by kernel_rfl) C1.F137_ok (s2 trivial trivial) (cutS_wp hm (cutL s h))
theorem time (s:List UInt8) (h:s.length<4294967281):PF A 83 [.str s] (.bool (timeB s)) :=
 pf Tryz.func83 (by kernel_rfl) C1.F83_ok (s1 trivial) (time_wp hm date clock zone cutS h)
theorem rowU (b:UInt8):PF A 172 [.int .u8 b.toNat] (encLead (leadB b.toNat)) :=
 pf Tryz.func172 (by kernel_rfl) C1.F172_ok (s1 trivial) (row_wp hm b)
theorem charU (c:Int):PF A 173 [.int .i64 c] (.bool (charB c)) :=
 pf Tryz.func173 (by kernel_rfl) C1.F173_ok (s1 trivial) charB_wp
theorem firstU (s:List UInt8) (h:s.length<4611686018427387904):PF A 138 [.str s] (encFirst (firstC s)) :=
 pf Tryz.func138 (by kernel_rfl) C1.F138_ok (s1 trivial) (first_wp hm rowU charU h)
theorem badU (s:List UInt8) (h:s.length<4611686018427387904):PF A 86 [.str s] (.int .i64 (badI s 0)) :=
 pf Tryz.func86 (by kernel_rfl) C1.F86_ok (s1 trivial) (bad_wp hm firstU h)
theorem validU (s:List UInt8) (h:s.length<4611686018427387904):PF A 82 [.str s] (.bool (validB s)) :=
 pf Tryz.func82 (by kernel_rfl) C1.F82_ok (s1 trivial) (validP_wp hm badU h)
theorem unlike (keys:List (List UInt8)) (hk:∀s∈keys,s.length<4294967281) (hl:keys.length<9223372036854775807):PF A 84 [.sl 1 stat (strs keys)] (.bool (unlikeB [] keys)) :=
 pf Tryz.func84 (by kernel_rfl) C1.F84_ok (s1 (sK keys)) (unlike_wp hm validU (fun s h=>by have:=hk s h;omega) hl)
theorem formed:∀t:PT,t.sok→PF A 50 [encT t] (.bool (formedB t)) :=
 indT fun t ih h=>pf Tryz.func50 (by kernel_rfl) C1.F50_ok (s1 (sta_T t)) (formed_wp hm normal (fun s h=>validU s (by omega)) time unlike ih h)
theorem sizeP:∀t:PT,t.n<4611686018427387904→PF A 17 [encT t] (.int .i64 t.n) :=
 indT fun t ih h=>pf Tryz.func17 (by kernel_rfl) C1.F17_ok (s1 (sta_T t)) (size_wp hm (fun u hu=>ih u hu (by omega)) h)
theorem depthP:∀t:PT,t.n<4611686018427387904→PF A 18 [encT t] (.int .i64 t.dp) :=
 indT fun t ih h=>pf Tryz.func18 (by kernel_rfl) C1.F18_ok (s1 (sta_T t)) (depth_wp hm (fun u hu=>ih u hu (by omega)) h)
theorem right (t:PT) (h:t.n<4611686018427387904) (hk:t.sok):PF A 16 [encT t] (.int .i64 (rightB t)) :=
 pf Tryz.func16 (by kernel_rfl) C1.F16_ok (s1 (sta_T t)) (right_wp hm depthP sizeP formed h hk)
theorem runs:PF A 3 [] (.bool true) :=
 PF.of_init gtSta trivial (AC_mono _ _ _ _ _ (exec2_sound Tryz.checked.mixed C1.tabOK prims 200 3 [] St.init retTrue ran) fun r S1 q=>by
  cases r with
  | ret x=>cases x<;>simp only [retTrue,Bool.false_eq_true] at q;subst q;exact⟨_,rfl,by simp only [Rdo]⟩
  | pan x=>simp [retTrue] at q)
end Go.Proofs.YthgidapmofcloaaGreatDoor.Fn

namespace Go.Dn
open Go Go.Proofs.C1
set_option maxRecDepth 100000
attribute [local irreducible] afterS keepE
theorem ofBytes_app (a b:List UInt8):ofBytes (a++b)=ofBytes a++ofBytes b:=by simp [ofBytes]
theorem ofBytes_len (a:List UInt8):(ofBytes a).length=a.length:=by simp [ofBytes]
theorem ofBytes_ok:∀a:List UInt8,((ofBytes a).flatMap AV.cells).all ok1=true
 | []=>rfl
 | x::r=>by simp [ofBytes,AV.cells,ok1]
theorem bytes_of:∀a:List UInt8,bytes? (ofBytes a)=some a
 | []=>rfl
 | x::r=>by
  have:=bytes_of r
  simp only [ofBytes] at this
  simp [ofBytes,bytes?,this]
section
variable {gt:GT} {C:CallT}
end

section
variable {gt:GT} {C:CallT}
end

section
variable {gt:GT} {C:CallT}
end
end Go.Dn

namespace Go.Dn
open Go
end Go.Dn

namespace Go.Dn
open Go Go.Proofs.C1
set_option maxRecDepth 100000
attribute [local irreducible] afterS keepE
section
variable {gt:GT} {C:CallT}
end

section
variable {gt:GT} {C:CallT}
end

section
variable {gt:GT} {C:CallT}
end

section
variable {gt:GT} {C:CallT}
end

def DC.lf:DC→DC |.seq a _=>a | c=>c
section
variable {gt:GT} {C:CallT}
end

section
variable {gt:GT} {C:CallT}
end

section
variable {gt:GT} {C:CallT}
end

section
variable {gt:GT} {C:CallT}
end

section
variable {gt:GT} {C:CallT}
end

section
variable {gt:GT} {C:CallT}
end

section
variable {gt:GT} {C:CallT}
end

section
variable {gt:GT} {C:CallT}
end

section
variable {gt:GT} {C:CallT}
end
end Go.Dn

namespace Go.Dn
open Go
end Go.Dn

namespace Go.Proofs.YthgidapmofcloaaGreatDoor.Fn
open Go.ChangeShapes Go.WideShapes Go.ChangeAt Go.RowKit Go.Dn
end Go.Proofs.YthgidapmofcloaaGreatDoor.Fn

namespace Go.Dn
section
variable {α:Type} (le:α→α→Prop)
abbrev Srt (l:List α):Prop:=l.Pairwise le
variable {le}
theorem srt_app {x y:List α}:Srt le (x++y)↔Srt le x∧Srt le y∧∀u∈x,∀v∈y,le u v:=List.pairwise_append
theorem ends_le (tr:∀{a b c:α},le a b→le b c→le a c) {x y:List α} (hx:Srt le x) (hy:Srt le y) (h:∀u v,x[x.length-1]? = some u→y[0]? = some v→le u v) (rf:∀a,le a a):∀u∈x,∀v∈y,le u v:=by
 intro u hu v hv
 obtain⟨i,hi,rfl⟩:=List.mem_iff_getElem.1 hu
 obtain⟨j,hj,rfl⟩:=List.mem_iff_getElem.1 hv
 have h1:le x[i] (x[x.length-1]'(by omega)):=by
  rcases Nat.lt_or_ge i (x.length-1) with q | q
  ·exact List.pairwise_iff_getElem.1 hx i (x.length-1) hi (by omega) q
  ·have:i=x.length-1:=by omega
   simp only [this];exact rf _
 have h2:le (y[0]'(by omega)) y[j]:=by
  rcases Nat.eq_zero_or_pos j with q | q
  ·simp only [q];exact rf _
  ·exact List.pairwise_iff_getElem.1 hy 0 j (by omega) hj q
 exact tr (tr h1 (h _ _ (gE (by omega)) (gE (by omega)))) h2
theorem merge_ok {A B C D Z1 Z2:List α} (h1:Srt le Z1) (h2:Srt le Z2) (p1:Z1.Perm (A++C)) (p2:Z2.Perm (B++D)) (hAB:∀u∈A,∀v∈B,le u v) (hAD:∀u∈A,∀v∈D,le u v) (hCB:∀u∈C,∀v∈B,le u v) (hCD:∀u∈C,∀v∈D,le u v) :
  Srt le (Z1++Z2)∧(Z1++Z2).Perm ((A++B)++(C++D)):=by
 refine⟨srt_app.2 ⟨h1,h2,fun u hu v hv=>?_⟩,?_⟩
 ·have hu:=p1.mem_iff.1 hu
  have hv:=p2.mem_iff.1 hv
  rcases List.mem_append.1 hu with hu | hu<;>rcases List.mem_append.1 hv with hv | hv
  ·exact hAB u hu v hv
  ·exact hAD u hu v hv
  ·exact hCB u hu v hv
  ·exact hCD u hu v hv
 ·refine (p1.append p2).trans ?_
  rw [aA,aA]
  refine List.Perm.append_left A ?_
  rw [←aA,←aA]
  exact List.Perm.append_right D List.perm_append_comm
def Blk (le:α→α→Prop) (n:Nat) (d:List α):Prop:=∀(i j:Nat) (hi:i<d.length) (hj:j<d.length),i<j→i / n=j / n→le d[i] d[j]
theorem Blk.nil {n:Nat}:Blk le n []:=fun i j hi=>by simp at hi
theorem Blk.srt {n:Nat} {d:List α} (h:Blk le n d) (hn:d.length≤n):Srt le d :=
 List.pairwise_iff_getElem.2 fun i j hi hj hij=>h i j hi hj hij (by rw [Nat.div_eq_of_lt (by omega),Nat.div_eq_of_lt (by omega)])
theorem Blk.take {n:Nat} {x y:List α} (h:Blk le n (x++y)):Blk le n x:=fun i j hi hj hij e=>by
 have:=h i j (by rw [lA];omega) (by rw [lA];omega) hij e
 rwa [List.getElem_append_left hi,List.getElem_append_left hj] at this
theorem Blk.drop {n:Nat} {x y:List α} (h:Blk le n (x++y)) (hn:0<n) (hx:x.length % n=0):Blk le n y:=fun i j hi hj hij e=>by
 have:=h (x.length+i) (x.length+j) (by rw [lA];omega) (by rw [lA];omega) (by omega) (by
  obtain⟨k,hk⟩:=Nat.dvd_of_mod_eq_zero hx
  rw [hk,Nat.mul_add_div hn,Nat.mul_add_div hn,e])
 rw [List.getElem_append_right (by omega),List.getElem_append_right (by omega)] at this
 simpa only [Nat.add_sub_cancel_left] using this
theorem Blk.app {n:Nat} {x y:List α} (h:Blk le n x) (hn:0<n) (hx:x.length % n=0) (hy:Blk le n y):Blk le n (x++y):=fun i j hi hj hij e=>by
 obtain⟨k,hk⟩:=Nat.dvd_of_mod_eq_zero hx
 rcases Nat.lt_or_ge j x.length with q | q
 ·rw [List.getElem_append_left (by omega),List.getElem_append_left q]
  exact h i j (by omega) q hij e
 ·rcases Nat.lt_or_ge i x.length with q' | q'
  ·exfalso
   have h1:i / n<k:=by rw [Nat.div_lt_iff_lt_mul hn,Nat.mul_comm];omega
   have h2:k≤j / n:=by rw [Nat.le_div_iff_mul_le hn,Nat.mul_comm];omega
   omega
  ·rw [List.getElem_append_right q',List.getElem_append_right q]
   rw [lA] at hi hj
   refine hy _ _ (by omega) (by omega) (by omega) ?_
   have e1:i=n*k+(i-x.length):=by omega
   have e2:j=n*k+(j-x.length):=by omega
   rw [e1,e2,Nat.mul_add_div hn,Nat.mul_add_div hn] at e
   omega
theorem Blk.of {n:Nat} {d:List α} (h:Srt le d):Blk le n d:=fun i j hi hj hij _=>List.pairwise_iff_getElem.1 h i j hi hj hij
end
end Go.Dn

namespace Go.Dn
open Go Go.RowKit
def ints (l:List Nat):List AV:=l.map fun (n:Nat)=>AV.int .i64 (n:Int)
theorem ints_len (l:List Nat):(ints l).length=l.length:=by simp [ints]
theorem ints_get {l:List Nat} {i n:Nat} (h:l[i]? = some n):(ints l)[i]? = some (.int .i64 (n:Int)):=by simp [ints,h]
theorem ints_el (l:List Nat):∀y∈ints l,El false 1 y:=fun y hy=>by
 simp only [ints,List.mem_map] at hy
 obtain⟨n,_,rfl⟩:=hy
 exact⟨rfl,rfl⟩
theorem ints_set (l:List Nat) (i n:Nat):(ints l).set i (.int .i64 (n:Int))=ints (l.set i n):=by simp [ints,List.map_set]
def ArS (S:St) (R:List Rs) (ty:TypeId) (t b:Nat) (l:List Nat):Prop:=Hs S (R++[.bx b ty ((ints l).flatMap AV.cells++[]),.mk t t b])
abbrev slA (t n:Nat) (xs:List AV):AV:=.sl 1 ⟨some (t,t),0,some n,false⟩ xs
section
variable {S:St} {R:List Rs} {ty:TypeId} {t b:Nat} {l:List Nat}
theorem ArS.hi:(R++[Rs.bx b ty ((ints l).flatMap AV.cells++[]),Rs.mk t t b])[R.length]? = some (.bx b ty ((ints l).flatMap AV.cells++[])):=by simp
theorem ArS.hj:(R++[Rs.bx b ty ((ints l).flatMap AV.cells++[]),Rs.mk t t b])[R.length+1]? = some (.mk t t b):=by simp
theorem ArS.els (h:ArS S R ty t b l) {n:Nat} {xs:List AV} (hx:xs.length=l.length):elems S false 1 ⟨some (t,t),0,some n,false⟩ xs=some (ints l):=by
 have:=arr_els h ArS.hi ArS.hj (ints_el l) (off:=0) (cap:=some n) (nl:=false) (xs:=xs) (by rw [ints_len];omega)
 rw [List.drop_zero,hx,List.take_of_length_le (by rw [ints_len];omega)] at this
 exact this
theorem ArS.st (h:ArS S R ty t b l) {gt:GT} {d:Option Nat} {env:Env} {a x:DOpd} {n:Nat} {xs:List AV} {k v:Nat} (hx:xs.length=l.length) (ha:loc env a=some (.el 1 ⟨some (t,t),0,some n,false⟩ xs k 0)) (hv:opd env x=some (.int .i64 (v:Int))) (hk:k<l.length) :
  ∃S',stepO gt d env S (.st 1 a x)=.done (putV d .undef env) S'∧ArS S' R ty t b (l.set k v):=by
 obtain⟨S',h1,h2⟩:=arr_st h R.length ArS.hi ArS.hj (fun y hy=>(ints_el l y hy).1) (gt:=gt) (d:=d) (env:=env) (a:=a) (x:=x) (xs:=xs) (so:=0) (k:=k) (off:=0) (sz:=1) (cap:=some n) (nl:=false) (v:=.int .i64 (v:Int)) (v':=.int .i64 (v:Int)) ha hv rfl (by omega) (by rw [ints_len];omega) (Nat.le_refl 1) (by
  have hc:(ints l)[0+k]'(by rw [ints_len];omega)=.int .i64 ((l[k]:Nat):Int):=by simp [ints]
  rw [hc];rfl)
 refine⟨S',h1,?_⟩
 rw [Nat.zero_add,ints_set] at h2
 unfold ArS
 simpa using h2
end
theorem st_runPD {C:CallT} {gt:GT} {d:Option Nat} {op:DOp} {gd:Option (Nat×Bool)} {l:Option Nat} {env env':Env} {S:St} {P:St→Prop} {K:Env→St→Prop} {Q:Ex→Env→St→Prop} (h:∃S',stepO gt d env S op=.done env' S'∧P S') (hg:Gd env gd) (h0:isLoc op=false) (h1:conform l env op=true) (k:∀S',P S'→K env' S'):afterS C d env S K Q (stepD gt (⟨d,op,gd⟩,l) env S):=by
 obtain⟨S',h2,h3⟩:=h
 exact st_anyD hg h0 h1 h2 (k S' h3)
theorem set_mid {α:Type} {P Q:List α} {x y:α} {n:Nat} (h:n=P.length):(P++(x::Q)).set n y=P++(y::Q):=by
 subst h
 rw [List.set_append_right _ _ (Nat.le_refl _),Nat.sub_self];rfl
theorem get_mid {α:Type} {P Q:List α} {x:α} {n:Nat} (h:n=P.length):(P++(x::Q))[n]? = some x:=by
 subst h
 rw [List.getElem?_append_right (Nat.le_refl _),Nat.sub_self];rfl
end Go.Dn

namespace Go.Dn
open Go Go.Proofs.C1
set_option maxRecDepth 100000
attribute [local irreducible] afterS keepE
section
variable {gt:GT} {C:CallT} {R:List Rs} {ty:TypeId} {t b:Nat}
def SwapC (C:CallT) (R:List Rs) (ty:TypeId) (t b:Nat) (g:AV):Prop :=
 ∀(S:St) (xs:List AV) (P X M Y Q:List Nat) (a c n:Nat),a=P.length→c=P.length+X.length+M.length→n=X.length→xs.length=(P++(X++(M++(Y++Q)))).length→(P++(X++(M++(Y++Q)))).length<4611686018427387904→X.length=Y.length→ArS S R ty t b (P++(X++(M++(Y++Q)))) →
  C 218 [slA t xs.length xs,.int .i64 a,.int .i64 c,.int .i64 n,g] S fun r S'=>r=.ret (.tup [])∧ArS S' R ty t b (P++(Y++(M++(X++Q))))
def RotC (C:CallT) (R:List Rs) (ty:TypeId) (t b:Nat) (g:AV):Prop :=
 ∀(S:St) (xs:List AV) (P X Y Q:List Nat) (a m c:Nat),a=P.length→m=P.length+X.length→c=P.length+X.length+Y.length→X≠[]→Y≠[]→xs.length=(P++(X++(Y++Q))).length→(P++(X++(Y++Q))).length<2305843009213693952→ArS S R ty t b (P++(X++(Y++Q))) →
  C 201 [slA t xs.length xs,.int .i64 a,.int .i64 m,.int .i64 c,g] S fun r S'=>r=.ret (.tup [])∧ArS S' R ty t b (P++(Y++(X++Q)))
abbrev E_sw (t:Nat) (xs:List AV) (a c n i:Nat):Env:=[(0,.val (slA t xs.length xs)),(1,.val (.int .i64 a)),(2,.val (.int .i64 c)),(3,.val (.int .i64 n)),(10,.val (.int .i64 i))]
set_option maxHeartbeats 4000000 in
theorem swap_wp (hm:MonoC C) {S:St} {xs:List AV} {P X M Y Q:List Nat} {g:AV} (hx:xs.length=(P++(X++(M++(Y++Q)))).length) (hl:(P++(X++(M++(Y++Q)))).length<4611686018427387904) (hxy:X.length=Y.length) (hA:ArS S R ty t b (P++(X++(M++(Y++Q))))) :
  wpF gt C F218 [slA t xs.length xs,.int .i64 P.length,.int .i64 ((P.length+X.length+M.length:Nat):Int),.int .i64 X.length,g] S fun r S'=>r=.ret (.tup [])∧ArS S' R ty t b (P++(Y++(M++(X++Q)))):=by
 have hlen:(P++(X++(M++(Y++Q)))).length=P.length+(X.length+(M.length+(Y.length+Q.length))):=by simp only [lA]
 rw [hlen] at hx hl
 refine⟨rfl,?_⟩
 refine goW ?_
 refine loop_rule hm (α:=Nat×List Nat×List Nat×List Nat×List Nat) (fun a env S'=>env=E_sw t xs P.length (P.length+X.length+M.length) X.length a.1∧a.1+a.2.2.1.length=X.length∧a.2.1.length=P.length+a.1∧a.2.2.1.length=a.2.2.2.2.length∧a.2.1.length+a.2.2.1.length+a.2.2.2.1.length=P.length+X.length+M.length+a.1 ∧
   ArS S' R ty t b (a.2.1++(a.2.2.1++(a.2.2.2.1++(a.2.2.2.2++Q))))∧P++(Y++(M++(X++Q)))=a.2.1++(a.2.2.2.2++(a.2.2.2.1++(a.2.2.1++Q)))) (fun a=>X.length-a.1) ?_ (a:=(0,P,X,M,Y)) ⟨rfl,by simp,by simp,hxy,by simp,hA,rfl⟩
 rintro⟨i,Pi,Xi,Mi,Yi⟩ env S' ⟨rfl,h1,h2,h3,h4,hA,hT⟩
 simp only at h1 h2 h3 h4 hA hT
 refine goW ?_
 by_cases hc:(i:Int)<(X.length:Nat)
 ·rw [dT hc]
  match Xi,Yi,h1,h3,h4,hA,hT with
  | [],_,h1,_,_,_,_=>simp at h1;omega
  | _::_,[],_,h3,_,_,_=>simp at h3
  | x::Xr,y::Yr,h1,h3,h4,hA,hT =>
  simp only [lC] at h1 h3 h4
  have hla:(Pi++((x::Xr)++(Mi++((y::Yr)++Q)))).length=xs.length:=by simp only [lA,lC];omega
  have g1:(Pi++((x::Xr)++(Mi++((y::Yr)++Q))))[P.length+i]? = some x:=get_mid (by omega)
  have g2:(Pi++((x::Xr)++(Mi++((y::Yr)++Q))))[P.length+X.length+M.length+i]? = some y:=by
   rw [show Pi++((x::Xr)++(Mi++((y::Yr)++Q)))=(Pi++((x::Xr)++Mi))++(y::(Yr++Q)) by simp only [aA,List.cons_append]]
   exact get_mid (by simp only [lA,lC];omega)
  have s1:(Pi++((x::Xr)++(Mi++((y::Yr)++Q)))).set (P.length+i) y=Pi++(y::(Xr++(Mi++((y::Yr)++Q)))):=set_mid (by omega)
  have s2:(Pi++(y::(Xr++(Mi++((y::Yr)++Q))))).set (P.length+X.length+M.length+i) x=(Pi++[y])++(Xr++((Mi++[x])++(Yr++Q))):=by
   rw [show Pi++(y::(Xr++(Mi++((y::Yr)++Q))))=(Pi++(y::(Xr++Mi)))++(y::(Yr++Q)) by simp only [aA,List.cons_append],set_mid (by simp only [lA,lC];omega)]
   simp only [aA,List.cons_append,List.nil_append]
  generalize Pi++((x::Xr)++(Mi++((y::Yr)++Q)))=l at hA hla g1 g2 s1
  have k1:P.length+i<l.length:=by omega
  have k2:P.length+X.length+M.length+i<l.length:=by omega
  have w1:wr .i64 ((P.length:Int)+(i:Int))=((P.length+i:Nat):Int):=by rw [wr64 (by omega) (by omega)];omega
  have w2:wr .i64 (((P.length+X.length+M.length:Nat):Int)+(i:Int))=((P.length+X.length+M.length+i:Nat):Int):=by rw [wr64 (by omega) (by omega)];omega
  refine goW ?_
  rw [w1,w2]
  refine step_ruleDO rfl rfl (sx_ia (k:=P.length+X.length+M.length+i) rfl rfl (by omega)) (goW ?_)
  refine step_ruleDO rfl rfl (sx_ldEl (agg:=false) rfl (hA.els hla.symm) (ints_get g2) rfl) (goW ?_)
  rw [w1]
  refine step_ruleDO rfl rfl (sx_ia (k:=P.length+i) rfl rfl (by omega)) (goW ?_)
  refine step_ruleDO rfl rfl (sx_ldEl (agg:=false) rfl (hA.els hla.symm) (ints_get g1) rfl) (goW ?_)
  refine step_ruleDO rfl rfl (sx_ia (k:=P.length+i) rfl rfl (by omega)) (goW ?_)
  refine st_runPD (hA.st hla.symm rfl rfl k1) (by trivial) rfl rfl ?_
  intro S2 hA
  rw [s1] at hA
  refine goW ?_
  refine step_ruleDO rfl rfl (sx_ia (k:=P.length+X.length+M.length+i) rfl rfl (by omega)) (goW ?_)
  have hl2:(Pi++(y::(Xr++(Mi++((y::Yr)++Q))))).length=l.length:=by rw [←s1,List.length_set]
  refine st_runPD (hA.st (by omega) rfl rfl (by omega)) (by trivial) rfl rfl ?_
  intro S3 hA
  rw [s2] at hA
  refine goW ?_
  refine⟨(i+1,Pi++[y],Xr,Mi++[x],Yr),⟨?_,by simp only;omega,by simp only [lA,lC,List.length_nil];omega,by simp only;omega,by simp only [lA,lC,List.length_nil];omega,hA,?_⟩,by simp only;omega⟩
  ·rw [wrNat (by omega)]
  ·rw [hT];simp only [aA,List.cons_append,List.nil_append]
 ·rw [dF hc]
  have e1:Xi=[]:=nL (by omega)
  have e2:Yi=[]:=nL (by omega)
  subst e1;subst e2
  refine goW ?_
  refine⟨_,rfl,rfl,?_⟩
  rw [hT];exact hA
abbrev E_ro (t:Nat) (xs:List AV) (m:Nat) (g:AV) (i j:Nat):Env:=[(0,.val (slA t xs.length xs)),(2,.val (.int .i64 m)),(4,.val g),(10,.val (.int .i64 i)),(11,.val (.int .i64 j))]
set_option maxHeartbeats 4000000 in
theorem rot_wp (hm:MonoC C) {f:FuncId} {cs:List AV} (hsw:SwapC C R ty t b (.fn f [] cs)) {S:St} {xs:List AV} {P X Y Q:List Nat} (h1:X≠[]) (h2:Y≠[]) (hx:xs.length=(P++(X++(Y++Q))).length) (hl:(P++(X++(Y++Q))).length<2305843009213693952) (hA:ArS S R ty t b (P++(X++(Y++Q)))) :
  wpF gt C F201 [slA t xs.length xs,.int .i64 P.length,.int .i64 ((P.length+X.length:Nat):Int),.int .i64 ((P.length+X.length+Y.length:Nat):Int),.fn f [] cs] S fun r S'=>r=.ret (.tup [])∧ArS S' R ty t b (P++(Y++(X++Q))):=by
 have hlen:(P++(X++(Y++Q))).length=P.length+(X.length+(Y.length+Q.length)):=by simp only [lA]
 rw [hlen] at hx hl
 have p1:0<X.length:=List.length_pos_iff.2 h1
 have p2:0<Y.length:=List.length_pos_iff.2 h2
 refine⟨rfl,?_⟩
 refine goW ?_
 rw [show wr .i64 (((P.length+X.length:Nat):Int)-(P.length:Int))=(X.length:Int) by rw [wr64 (by omega) (by omega)];omega,show wr .i64 (((P.length+X.length+Y.length:Nat):Int)-((P.length+X.length:Nat):Int))=(Y.length:Int) by rw [wr64 (by omega) (by omega)];omega]
 refine loop_rule hm (α:=List Nat×List Nat×List Nat×List Nat) (fun a env S'=>env=E_ro t xs (P.length+X.length) (.fn f [] cs) a.2.1.length a.2.2.1.length∧0<a.2.1.length∧0<a.2.2.1.length∧a.1.length+a.2.1.length=P.length+X.length∧xs.length=(a.1++(a.2.1++(a.2.2.1++a.2.2.2))).length ∧
   ArS S' R ty t b (a.1++(a.2.1++(a.2.2.1++a.2.2.2)))∧P++(Y++(X++Q))=a.1++(a.2.2.1++(a.2.1++a.2.2.2))) (fun a=>a.2.1.length+a.2.2.1.length) ?_ (a:=(P,X,Y,Q)) ⟨rfl,p1,p2,rfl,by rw [hlen,hx],hA,rfl⟩
 rintro⟨P',L,U,Q'⟩ env S' ⟨rfl,l1,l2,l3,l4,hA,hT⟩
 simp only at l1 l2 l3 l4 hA hT
 have hlen':(P'++(L++(U++Q'))).length=P'.length+(L.length+(U.length+Q'.length)):=by simp only [lA]
 have w1:wr .i64 (((P.length+X.length:Nat):Int)-(L.length:Int))=((P'.length:Nat):Int):=by rw [wr64 (by omega) (by omega)];omega
 refine goW ?_
 by_cases hne:(L.length:Int)=U.length
 ·rw [neI_false hne]
  refine goW ?_
  rw [w1]
  refine call_rule (by rfl) (hm _ _ _ _ _ (hsw S' xs P' L [] U Q' P'.length (P.length+X.length) L.length rfl (by simp only [List.length_nil];omega) rfl l4 (by simp only [List.nil_append];omega) (by omega) hA) ?_)
  rintro r S2 ⟨rfl,hA⟩
  refine goW ?_
  refine⟨_,rfl,rfl,?_⟩
  rw [hT];exact hA
 rw [neI_true hne]
 refine goW ?_
 by_cases hgt:(L.length:Int) > U.length
 ·rw [dT hgt]
  obtain⟨L1,L2,hL,e1,hLl⟩:∃L1 L2,L=L1++L2∧L1.length=U.length∧L1.length+L2.length=L.length:=⟨L.take U.length,L.drop U.length,(tkD _ _).symm,by rw [lT];omega,by rw [lT,lD];omega⟩
  have l5:xs.length=(P'++(L1++(L2++(U++Q')))).length:=by simp only [lA];omega
  rw [hL,aA] at hA hT
  refine goW ?_
  rw [w1]
  refine call_rule (by rfl) (hm _ _ _ _ _ (hsw S' xs P' L1 L2 U Q' P'.length (P.length+X.length) U.length rfl (by omega) (by omega) l5 (by rw [←l5];omega) e1 hA) ?_)
  rintro r S2 ⟨rfl,hA⟩
  refine goW ?_
  refine⟨(P'++U,L2,L1,Q'),⟨?_,by simp only;omega,by simp only;omega,by simp only [lA];omega,?_,?_,?_⟩,by simp only;omega⟩
  ·simp only [E_ro]
   rw [wr64 (by omega) (by omega),show (L.length:Int)-(U.length:Int)=(L2.length:Int) by omega,e1]
   try rfl
  ·simp only [lA];omega
  ·rw [aA];exact hA
  ·rw [hT];simp only [aA]
 ·rw [dF hgt]
  obtain⟨U1,U2,hU,e1,hUl⟩:∃U1 U2,U=U1++U2∧U2.length=L.length∧U1.length+U2.length=U.length:=⟨U.take (U.length-L.length),U.drop (U.length-L.length),(tkD _ _).symm,by rw [lD];omega,by rw [lT,lD];omega⟩
  have l5:xs.length=(P'++(L++(U1++(U2++Q')))).length:=by simp only [lA];omega
  rw [hU,aA] at hA hT
  refine goW ?_
  rw [w1,wr64 (n:=((P.length+X.length:Nat):Int)+(U.length:Int)) (by omega) (by omega),show wr .i64 (((P.length+X.length:Nat):Int)+(U.length:Int)-(L.length:Int))=((P.length+X.length+U1.length:Nat):Int) by rw [wr64 (by omega) (by omega)];omega]
  refine call_rule (by rfl) (hm _ _ _ _ _ (hsw S' xs P' L U1 U2 Q' P'.length (P.length+X.length+U1.length) L.length rfl (by omega) rfl l5 (by rw [←l5];omega) e1.symm hA) ?_)
  rintro r S2 ⟨rfl,hA⟩
  refine goW ?_
  refine⟨(P',U2,U1,L++Q'),⟨?_,by simp only;omega,by simp only;omega,by simp only;omega,?_,hA,?_⟩,by simp only;omega⟩
  ·simp only [E_ro]
   rw [wr64 (by omega) (by omega),show (U.length:Int)-(L.length:Int)=(U1.length:Int) by omega,e1]
   try rfl
  ·simp only [lA];omega
  ·rw [hT]
end
end Go.Dn
