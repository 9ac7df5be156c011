/- The code is the program's,printed by a program (Gen). What the listed variables give; a world that meets the condition; the law without arguments, run by the kernel. Functions of the library by the contracts of the kit's shelf, as pure functions over the abstract store. The functions that laws about trees reach, as contracts, each by its code. Bytes as lists. Texts of characters: the reference's Runes and Valid. Trees: the reference's Shaped is the program's formed. Trees: the reference's Depth and Right; the law TreeRights, walked. Noughts cut off at both ends, in either order. Numbers: the reference's Digits and Decimal. Numbers: the reference's run; Split, from its end: the digits without noughts, the exponent. Numbers: the reference's Split: the exponent's number. Numbers: the reference's Split: the exponent's digits. Numbers: the reference's Split: its pieces. Numbers: the reference's Split is the program's. Numbers: the reference's Split is the program's: from its beginning. Numbers: the reference's Split, Join and Normal are the program's. Numbers: the reference's Join and Normal are the program's. Times: the reference's digits and dates. Times: the reference's dates are the program's. Times: the reference's times of a day are the program's. Times: the reference's Time, walked. Times: the reference's Time is the program's. The reference's functions that laws about trees reach, as contracts, each by its code. Sorting: what a stable sort by blocks and merges in place does, as plain lists. An array of numbers that is one's own, read and written in place. Sorting in place: ranges swapped, blocks turned round. Sorting in place: by insertion. Sorting in place: two rows merged, where one is of one. Sorting in place: two rows merged, where the other is of one. Sorting in place: two rows merged: turned round, and each half merged. -/
import Derived.Test.YtbojekglccdajaaGreatDoorProg
import Derived.Test.YtbojekglccdajaaGreatDoorTie
import Derived.Test.YtbojekglccdajaaGreatDoorCards
import Derived.ProofKit
import Derived.LaidMore
import Derived.Lib.LaidTab
import Derived.Stop.LaidErr
import Derived.OpenShut
import Derived.Carry
import Derived.Stop.Joined
import Derived.Lay
import Derived.SevenTiedAt
import Derived.Lib.SmallJoins
import Derived.Lib.AppendIntMem
import Derived.Test.YtbojekglccdajaaGreatDoorIm
set_option linter.unusedSimpArgs false
set_option linter.unusedVariables false
namespace Go.Proofs.C1
open Go Go.Dn
set_option maxRecDepth 100000
noncomputable section
abbrev pF (n:Note) (f:Func):DF:=(prepF Tryz.prog n f).getD ⟨0,.ret,[]⟩
abbrev N3:Note:=⟨[],[(0,[]),(1,[1,2,3]),(2,[1,2,3,4,5,6]),(3,[1,2,3,4,5,6,7,8,9]),(4,[1,2,3,4,5,6,7,8,9,12]),(5,[1,2,3,4,5,6,7,8,9,12,14]),(6,[1,2,3,4,5,6,7,8,9,12,14,15,16,17]),(7,[0])],[]⟩
def F3:DF:=pF N3 Tryz.f3
theorem F3_ok:prepF Tryz.prog N3 Tryz.f3=some F3:=by kernel_rfl
theorem F3_fn:FnOK2 Tryz.prog 3 (.pl F3):=.pl Tryz.func3 (by kernel_rfl) F3_ok
theorem F4_ok : prepF Tryz.prog ⟨[],[(0,[0,1,2,3]),(1,[0,1,2,3]),(2,[0,1,2,3]),(3,[0,1,2,3,9,10,11]),(4,[0,1,2,3,9,10,11,12,13,14]),(5,[0,1,2,3,9,10,11,12,13,14,15,16]),(6,[0,1,2,9,10,11,12,13,14,15,16,17,18]),(7,[8])],[]⟩ Tryz.f4 = some F4 := by kernel_rfl
theorem F4_fn:FnOK2 Tryz.prog 4 (.pl F4):=.pl Tryz.func4 (by kernel_rfl) F4_ok
theorem F11_ok : prepF Tryz.prog ⟨[],[(0,[0,1]),(1,[0,1,23]),(2,[4,5,6]),(3,[0,1,7]),(4,[0,1,7,28,29]),(5,[0,1,7,28,29,30]),(6,[0,1,7,8,28,29]),(7,[0,1,7,28,29]),(8,[0,1,7,28,29]),(9,[0,1,7,43]),(10,[4,5,6]),(11,[0,1,7,9]),(12,[0,1,7,9]),(13,[0,1,7,9,10,11]),(14,[0,1,7,9,10,11,67]),(15,[0,1,7,9,10,11,12]),(16,[0,1,7,9,10,11]),(17,[0,1,7,9,10,11,12,78]),(18,[0,1,7,9,10,11]),(19,[0,1,7,9,10,11]),(20,[0,1,7,9,10,11,106]),(21,[0,1,7,9,10,11]),(22,[4,5,6]),(1000000,[0,1,7,28,29]),(1000002,[0,1,7,9,10,11])],[]⟩ Tryz.f11 = some F11 := by kernel_rfl
theorem F11_fn:FnOK2 Tryz.prog 11 (.pl F11):=.pl Tryz.func11 (by kernel_rfl) F11_ok
abbrev N12:Note:=⟨[3],[(0,[0]),(1,[3]),(2,[2])],[]⟩
def F12:DF:=pF N12 Tryz.f12
theorem F12_ok:prepF Tryz.prog N12 Tryz.f12=some F12:=by kernel_rfl
theorem F12_fn:FnOK2 Tryz.prog 12 (.pl F12):=.pl Tryz.func12 (by kernel_rfl) F12_ok
theorem F13_ok : prepF Tryz.prog ⟨[],[(0,[0,1,2,3]),(1,[1,2,3,13]),(2,[1,2,3,13,14]),(3,[8,9]),(4,[1,2,3,13,19]),(5,[8,9]),(6,[2,3,25]),(7,[10,12]),(8,[8,9]),(9,[8,9])],[]⟩ Tryz.f13 = some F13 := by kernel_rfl
theorem F13_fn:FnOK2 Tryz.prog 13 (.pl F13):=.pl Tryz.func13 (by kernel_rfl) F13_ok
theorem F14_ok : prepF Tryz.prog ⟨[],[(0,[0,1]),(1,[0,1,10]),(2,[4]),(3,[0,1,5]),(4,[0,1,5,14]),(5,[0,1,5]),(6,[0,1,5,25]),(7,[4]),(8,[4]),(1000000,[0,1,5])],[]⟩ Tryz.f14 = some F14 := by kernel_rfl
theorem F14_fn:FnOK2 Tryz.prog 14 (.pl F14):=.pl Tryz.func14 (by kernel_rfl) F14_ok
theorem F15_ok : prepF Tryz.prog ⟨[],[(0,[0,1]),(1,[0,1,5]),(2,[0,5,11,12]),(3,[0,5,11,12,13]),(4,[0,5,6,11,12]),(5,[0,5,6,11,12,18]),(6,[0,5,11,12]),(7,[0,5,11,12]),(8,[0,5,11,12]),(9,[4]),(1000000,[0,5,11,12])],[]⟩ Tryz.f15 = some F15 := by kernel_rfl
theorem F15_fn:FnOK2 Tryz.prog 15 (.pl F15):=.pl Tryz.func15 (by kernel_rfl) F15_ok
theorem F16_ok : prepF Tryz.prog ⟨[10,11,15,16],[(0,[0,1,2]),(1,[0,1,2,7]),(2,[0,1,2,7,8]),(3,[0,2,7,8,22,23,24]),(4,[0,2,7,8,22,23,24,25]),(5,[0,2,7,8,10,22,23,24]),(6,[0,2,7,8,11,12,22,23,24]),(7,[0,2,7,8,11,12,13,22,23,24]),(8,[0,2,7,8,11,12,13,22,23,24,34,35,36]),(9,[0,2,7,8,11,12,13,22,23,24,34,35,36,37]),(10,[0,2,7,8,11,12,13,14,15,22,23,24,34,35,36]),(11,[0,2,7,8,11,12,13,14,16,17,22,23,24,34,35,36]),(12,[0,2,7,8,11,12,13,14,22,23,24,34,35,36,69]),(13,[0,2,7,8,11,12,13,14,22,23,24,34,35,36]),(14,[0,2,7,8,11,12,13,22,23,24,34,35,36]),(15,[0,2,7,8,11,12,13,22,23,24,34,35,36]),(16,[0,2,7,8,22,23,24]),(17,[0,2,7,8,22,23,24]),(18,[6]),(1000000,[0,2,7,8,22,23,24]),(1000002,[0,2,7,8,11,12,13,22,23,24,34,35,36])],[]⟩ Tryz.f16 = some F16 := by kernel_rfl
theorem F16_fn:FnOK2 Tryz.prog 16 (.pl F16):=.pl Tryz.func16 (by kernel_rfl) F16_ok
theorem F17_ok : prepF Tryz.prog ⟨[],[(0,[0,1]),(1,[0,1,5]),(2,[1,5,9,10,11]),(3,[1,5,9,10,11,12]),(4,[1,5,7,9,10,11]),(5,[1,5,7,9,10,11,16]),(6,[1,5,9,10,11,18]),(7,[4]),(8,[1,5,7,9,10,11]),(9,[1,5,9,10,11,31]),(10,[4]),(11,[1,5,9,10,11]),(12,[4]),(1000000,[1,5,9,10,11])],[]⟩ Tryz.f17 = some F17 := by kernel_rfl
theorem F17_fn:FnOK2 Tryz.prog 17 (.pl F17):=.pl Tryz.func17 (by kernel_rfl) F17_ok
theorem F18_ok : prepF Tryz.prog ⟨[],[(0,[0,1]),(1,[0,1,5]),(2,[0,1,5,6]),(3,[0,1,5,6,7]),(4,[0,1,5,6,7,21]),(5,[0,1,5,6,7]),(6,[0,1,5,6,7,8]),(7,[0,1,5,6,7]),(8,[0,1,5,6,7,41]),(9,[0,1,5,6,7]),(10,[4]),(1000000,[0,1,5,6,7])],[]⟩ Tryz.f18 = some F18 := by kernel_rfl
theorem F18_fn:FnOK2 Tryz.prog 18 (.pl F18):=.pl Tryz.func18 (by kernel_rfl) F18_ok
theorem F19_ok : prepF Tryz.prog ⟨[],[(0,[0,1]),(1,[0,1,7]),(2,[0,1,7,8]),(3,[0,1,7,8,27]),(4,[4,5,6]),(5,[0,1,7,8,9]),(6,[0,1,7,8,9,10]),(7,[0,1,7,8,9,10,11]),(8,[0,1,7,8,9,10,11,36]),(9,[0,1,7,8,9,10,11]),(10,[0,1,7,8,9,10,11]),(11,[0,1,7,8,9,10,11]),(12,[0,1,7,8,9,10,11,12]),(13,[0,1,7,8,9,10,11,12,53]),(14,[0,1,7,8,9,10,11,12]),(15,[0,1,7,8,9,10,11,12,61]),(16,[0,1,7,8,9,10,11,12]),(17,[0,1,7,8,9,10,11,12]),(18,[0,1,7,8,9,10,11,12,88]),(19,[0,1,7,8,9,10,11,12]),(20,[0,1,7,8,9,10,11,12]),(21,[0,1,7,8,9,10,11,12,134]),(22,[0,1,7,8,9,10,11,12]),(23,[0,1,7,8,9,10,11,12,166]),(24,[0,1,7,8,9,10,11,12]),(25,[7,8,9,10,13]),(26,[7,8,9,10,13,14]),(27,[7,8,9,10,13,14,15]),(28,[7,8,9,10,13,14,15,187]),(29,[7,8,9,10,13,14,15]),(30,[7,8,9,10,13,14,15]),(31,[7,8,9,10,13,14,15,193]),(32,[7,8,9,10,13,14,15]),(33,[7,8,9,10,13,14,15]),(34,[7,8,9,10,13,14,15]),(35,[7,8,9,10,13,14,15,231]),(36,[7,8,9,10,13,14,15]),(37,[4,5,6]),(1000000,[0,1,7,8,9,10,11]),(1000002,[0,1,7,8,9,10,11,12]),(1000004,[7,8,9,10,13,14,15])],[]⟩ Tryz.f19 = some F19 := by kernel_rfl
theorem F19_fn:FnOK2 Tryz.prog 19 (.pl F19):=.pl Tryz.func19 (by kernel_rfl) F19_ok
theorem F20_ok : prepF Tryz.prog ⟨[],[(0,[0,1,2,3]),(1,[1,2,3,13]),(2,[1,2,3,13,14]),(3,[8,9]),(4,[1,2,3,13,19]),(5,[8,9]),(6,[2,3,25]),(7,[10,12]),(8,[8,9]),(9,[8,9])],[]⟩ Tryz.f20 = some F20 := by kernel_rfl
theorem F20_fn:FnOK2 Tryz.prog 20 (.pl F20):=.pl Tryz.func20 (by kernel_rfl) F20_ok
theorem F21_ok : prepF Tryz.prog ⟨[],[(0,[0,1]),(1,[0,1,5]),(2,[0,1,5,6]),(3,[0,1,5,6,10]),(4,[0,1,5,6]),(5,[0,1,5,6,16]),(6,[0,1,5,6]),(7,[0,1,5,6]),(8,[4]),(1000000,[0,1,5,6])],[]⟩ Tryz.f21 = some F21 := by kernel_rfl
theorem F21_fn:FnOK2 Tryz.prog 21 (.pl F21):=.pl Tryz.func21 (by kernel_rfl) F21_ok
theorem F22_ok : prepF Tryz.prog ⟨[10,14],[(0,[0,1,2]),(1,[0,1,2,7]),(2,[0,1,2,7,8]),(3,[0,1,2,7,8,9]),(4,[0,1,2,7,8,9,22]),(5,[0,1,2,7,8,9]),(6,[0,1,2,7,8,9,10,11]),(7,[0,1,2,7,8,9,10,11,12]),(8,[0,1,2,7,8,9,10,11,12,13]),(9,[0,1,2,7,8,9,10,11,12,13,41]),(10,[0,1,2,7,8,9,10,11,12,13]),(11,[0,1,2,7,8,9,10,11,12,13,14,15]),(12,[0,1,2,7,8,9,10,11,12,13,71]),(13,[0,1,2,7,8,9,10,11,12,13]),(14,[0,1,2,7,8,9,10,11,12,13]),(15,[0,1,2,7,8,9]),(16,[6]),(1000000,[0,1,2,7,8,9]),(1000002,[0,1,2,7,8,9,10,11,12,13])],[]⟩ Tryz.f22 = some F22 := by kernel_rfl
theorem F22_fn:FnOK2 Tryz.prog 22 (.pl F22):=.pl Tryz.func22 (by kernel_rfl) F22_ok
theorem F27_ok : prepF Tryz.prog ⟨[],[(0,[0,9,10]),(1,[0,9,10,11]),(2,[0,2,9,10]),(3,[0,2,9,10,18,19]),(4,[0,2,9,10,18,19,20]),(5,[0,2,3,9,10,18,19]),(6,[0,2,9,10,18,19]),(7,[0,2,3,9,10,18,19,65]),(8,[0,2,9,10,18,19]),(9,[0,2,9,10,18,19]),(10,[0,9,10]),(1000000,[0,9,10]),(1000002,[0,2,9,10,18,19])],[]⟩ Tryz.f27 = some F27 := by kernel_rfl
theorem F27_fn:FnOK2 Tryz.prog 27 (.pl F27):=.pl Tryz.func27 (by kernel_rfl) F27_ok
theorem F28_ok : prepF Tryz.prog ⟨[],[(0,[0,1,2]),(1,[23]),(2,[6]),(3,[6])],[]⟩ Tryz.f28 = some F28 := by kernel_rfl
theorem F28_fn:FnOK2 Tryz.prog 28 (.pl F28):=.pl Tryz.func28 (by kernel_rfl) F28_ok
abbrev N29:Note:=⟨[2],[(0,[1,2]),(1,[1,2,4]),(2,[2,4,5]),(3,[2,4,5,10]),(4,[2,3]),(5,[2,3])],[]⟩
def F29:DF:=pF N29 Tryz.f29
theorem F29_ok:prepF Tryz.prog N29 Tryz.f29=some F29:=by kernel_rfl
theorem F29_fn:FnOK2 Tryz.prog 29 (.pl F29):=.pl Tryz.func29 (by kernel_rfl) F29_ok
theorem F30_ok : prepF Tryz.prog ⟨[2,4],[(0,[1,2,4]),(1,[1,2,4,10]),(2,[4,5]),(3,[1,2,4,13,14,15]),(4,[1,2,4,13,14,15,16]),(5,[1,2,4,6,7,13,14,15]),(6,[1,2,4,6,13,14,15,29]),(7,[4,5]),(8,[1,2,4,13,14,15]),(9,[4,5]),(1000000,[1,2,4,13,14,15])],[(7,[(some 2),(some 2),none,none,none,(some 2),(some 2),none,none,none,none,none,(some 4),none])]⟩ Tryz.f30 = some F30 := by kernel_rfl
theorem F30_fn:FnOK2 Tryz.prog 30 (.pl F30):=.pl Tryz.func30 (by kernel_rfl) F30_ok
theorem F31_ok : prepF Tryz.prog ⟨[2,3],[(0,[2,3]),(1,[2,3,12]),(2,[4]),(3,[4])],[(3,[(some 2),none,(some 3),none,none,none])]⟩ Tryz.f31 = some F31 := by kernel_rfl
theorem F31_fn:FnOK2 Tryz.prog 31 (.pl F31):=.pl Tryz.func31 (by kernel_rfl) F31_ok
theorem F32_ok : prepF Tryz.prog ⟨[2],[(0,[1,2]),(1,[1,2,5]),(2,[1,2,5,6]),(3,[1,2,5,6,16]),(4,[1,2,5,6]),(5,[1,2,5,6]),(6,[4]),(1000000,[1,2,5,6])],[]⟩ Tryz.f32 = some F32 := by kernel_rfl
theorem F32_fn:FnOK2 Tryz.prog 32 (.pl F32):=.pl Tryz.func32 (by kernel_rfl) F32_ok
theorem F33_ok : prepF Tryz.prog ⟨[1],[(0,[1]),(1,[1,5]),(2,[2]),(3,[1,8]),(4,[2]),(5,[11]),(6,[2]),(7,[2])],[]⟩ Tryz.f33 = some F33 := by kernel_rfl
theorem F33_fn:FnOK2 Tryz.prog 33 (.pl F33):=.pl Tryz.func33 (by kernel_rfl) F33_ok
theorem F34_ok : prepF Tryz.prog ⟨[2,3],[(0,[2,3]),(1,[2,3,10]),(2,[4]),(3,[4])],[]⟩ Tryz.f34 = some F34 := by kernel_rfl
theorem F34_fn:FnOK2 Tryz.prog 34 (.pl F34):=.pl Tryz.func34 (by kernel_rfl) F34_ok
theorem F35_ok : prepF Tryz.prog ⟨[2,4],[(0,[1,2,4]),(1,[2,4,6]),(2,[2,4,6,33]),(3,[4,5]),(4,[4,5])],[]⟩ Tryz.f35 = some F35 := by kernel_rfl
theorem F35_fn:FnOK2 Tryz.prog 35 (.pl F35):=.pl Tryz.func35 (by kernel_rfl) F35_ok
theorem F37_ok : prepD Tryz.prog ⟨[],[(0,[0,1,4]),(1,[0,1,4,8]),(2,[4]),(3,[0,1,4,5]),(4,[0,1,4,5,14]),(5,[4]),(6,[0,1,4]),(7,[4]),(8,[4])],[]⟩ Tryz.f37 = some F37 := by kernel_rfl
theorem F37_fn : FnOK2 Tryz.prog 37 (.df F37) := .df Tryz.func37 (by kernel_rfl) F37_ok
abbrev N38:Note:=⟨[4],[(0,[1,2,4]),(1,[1,2,4]),(2,[2,4]),(3,[2,4]),(4,[4,20]),(5,[])],[(4,[(some 4),(some 4),none,none,none,none,none,none])]⟩
def F38:DF:=pF N38 Tryz.f38
theorem F38_ok:prepF Tryz.prog N38 Tryz.f38=some F38:=by kernel_rfl
theorem F38_fn:FnOK2 Tryz.prog 38 (.pl F38):=.pl Tryz.func38 (by kernel_rfl) F38_ok
abbrev N39:Note:=⟨[1],[(0,[1]),(1,[])],[]⟩
def F39:DF:=pF N39 Tryz.f39
theorem F39_ok:prepF Tryz.prog N39 Tryz.f39=some F39:=by kernel_rfl
theorem F39_fn:FnOK2 Tryz.prog 39 (.pl F39):=.pl Tryz.func39 (by kernel_rfl) F39_ok
abbrev N40:Note:=⟨[2,4,7],[(0,[1,2,4]),(1,[1,2,4,5]),(2,[1,2,4,5,13]),(3,[2,4]),(4,[4]),(5,[1,2,4,5,26]),(6,[1,2,4]),(7,[4]),(8,[1,2,4,5,38]),(9,[1,2,4]),(10,[4]),(11,[1,2,4,5,50]),(12,[1,2,4,5]),(13,[1,2,4,5,6]),(14,[1,2,4,5,6,67]),(15,[1,2,4,5,6]),(16,[4,6]),(17,[4]),(18,[1,2,4,5,7]),(19,[4,7]),(20,[4])],[]⟩
def F40:DF:=pF N40 Tryz.f40
theorem F40_ok:prepF Tryz.prog N40 Tryz.f40=some F40:=by kernel_rfl
theorem F40_fn:FnOK2 Tryz.prog 40 (.pl F40):=.pl Tryz.func40 (by kernel_rfl) F40_ok
abbrev N41:Note:=⟨[],[(0,[0,11]),(1,[0]),(2,[])],[]⟩
def F41:DF:=pF N41 Tryz.f41
theorem F41_ok:prepF Tryz.prog N41 Tryz.f41=some F41:=by kernel_rfl
theorem F41_fn:FnOK2 Tryz.prog 41 (.pl F41):=.pl Tryz.func41 (by kernel_rfl) F41_ok
theorem F42_ok : prepF Tryz.prog ⟨[],[(0,[0]),(1,[2])],[]⟩ Tryz.f42 = some F42 := by kernel_rfl
theorem F42_fn:FnOK2 Tryz.prog 42 (.pl F42):=.pl Tryz.func42 (by kernel_rfl) F42_ok
theorem F43_ok : prepF Tryz.prog ⟨[1,4],[(0,[1]),(1,[1,9,10,11]),(2,[1,9,10,11,12]),(3,[1,4,9,10,11]),(4,[1,9,10,11,17]),(5,[2]),(6,[1,9,10,11]),(7,[1,5]),(8,[1,5,30]),(9,[1,5,30,31]),(10,[2]),(11,[1,5,30,39]),(12,[2]),(13,[1,5,30,52]),(14,[1,5,6,7]),(15,[2]),(16,[1,5,30,71]),(17,[2]),(18,[1,5,30,79]),(19,[2]),(20,[1,30,87]),(21,[2]),(22,[1,98]),(23,[2]),(24,[2]),(1000000,[1,9,10,11])],[]⟩ Tryz.f43 = some F43 := by kernel_rfl
theorem F43_fn:FnOK2 Tryz.prog 43 (.pl F43):=.pl Tryz.func43 (by kernel_rfl) F43_ok
theorem F44_ok : prepF Tryz.prog ⟨[2,3],[(0,[2,3]),(1,[4])],[]⟩ Tryz.f44 = some F44 := by kernel_rfl
theorem F44_fn:FnOK2 Tryz.prog 44 (.pl F44):=.pl Tryz.func44 (by kernel_rfl) F44_ok
theorem F45_ok : prepF Tryz.prog ⟨[1,2,3,5],[(0,[1,2]),(1,[1,2,3]),(2,[1,2,3,24]),(3,[1,2,3]),(4,[2,3,32,33,34]),(5,[2,3,32,33,34,35]),(6,[2,3,5,32,33,34]),(7,[2,3,32,33,34]),(8,[2,3,32,33,34]),(9,[2]),(10,[1,2,3,49,50,51]),(11,[1,2,3,49,50,51,52]),(12,[1,2,3,7,49,50,51]),(13,[1,2,3,7,49,50,51]),(14,[1,2,3,49,50,51]),(15,[1,2,3,49,50,51]),(16,[2]),(1000000,[2,3,32,33,34]),(1000002,[1,2,3,49,50,51])],[(14,[(some 3),(some 3),(some 1),(some 1),none,none,none,none,none,none,(some 3),(some 3)]),(13,[(some 3),(some 3),(some 1),(some 1),none,none,none,none,none,(some 3),(some 3)]),(7,[(some 3),(some 3),(some 5),none,none,none,(some 3),(some 3)])]⟩ Tryz.f45 = some F45 := by kernel_rfl
theorem F45_fn:FnOK2 Tryz.prog 45 (.pl F45):=.pl Tryz.func45 (by kernel_rfl) F45_ok
theorem F46_ok : prepF Tryz.prog ⟨[1],[(0,[1]),(1,[1,3]),(2,[1,3,4]),(3,[1,3,4,10]),(4,[1,3,4]),(5,[1,3,4,5]),(6,[1,3,4,5,21]),(7,[1,3,4]),(8,[2]),(1000000,[1,3,4])],[]⟩ Tryz.f46 = some F46 := by kernel_rfl
theorem F46_fn:FnOK2 Tryz.prog 46 (.pl F46):=.pl Tryz.func46 (by kernel_rfl) F46_ok
theorem F47_ok : prepF Tryz.prog ⟨[1],[(0,[1]),(1,[1,3]),(2,[1,3,17]),(3,[2]),(4,[1,3,17,18]),(5,[2]),(6,[1,3,17,27]),(7,[2]),(8,[1,3,17,41]),(9,[1,3,4,5]),(10,[2]),(11,[1,3,17,61]),(12,[2]),(13,[1,3,17,70]),(14,[2]),(15,[1,17,79]),(16,[1,84]),(17,[2]),(18,[1,85]),(19,[1,93]),(20,[2]),(21,[1,6]),(22,[1,6,7]),(23,[1,6,7,99]),(24,[1,6,7]),(25,[1,6,7,118]),(26,[2]),(27,[1,6,7]),(28,[1,8]),(29,[1,8,129]),(30,[1,8]),(31,[1,8,138]),(32,[2]),(33,[2]),(1000001,[1,6,7]),(1000003,[1,8])],[]⟩ Tryz.f47 = some F47 := by kernel_rfl
theorem F47_fn:FnOK2 Tryz.prog 47 (.pl F47):=.pl Tryz.func47 (by kernel_rfl) F47_ok
theorem F48_ok : prepF Tryz.prog ⟨[2,3],[(0,[2,3]),(1,[2,3,27]),(2,[4]),(3,[2,3,5]),(4,[2,3,5,32]),(5,[2,3,5]),(6,[2,3,5,6]),(7,[2,3,5,6,38]),(8,[2,3,5,6]),(9,[2,3,5,6,48]),(10,[4]),(11,[2,3,5,60]),(12,[4]),(13,[4]),(1000000,[2,3,5])],[(11,[(some 2),(some 2),none,none,none,(some 3),(some 3),none,none,none,none,none]),(8,[(some 3),(some 3),(some 2),(some 2),none,none,none,none,none])]⟩ Tryz.f48 = some F48 := by kernel_rfl
theorem F48_fn:FnOK2 Tryz.prog 48 (.pl F48):=.pl Tryz.func48 (by kernel_rfl) F48_ok
theorem F49_ok : prepF Tryz.prog ⟨[2,3],[(0,[2,3]),(1,[2,3,36]),(2,[4]),(3,[2,3,5]),(4,[2,3,5,41]),(5,[2,3,5]),(6,[2,3,5,54]),(7,[4]),(8,[2,3,6]),(9,[2,3,6,59]),(10,[2,3,6]),(11,[2,3,6,73]),(12,[4]),(13,[4]),(1000000,[2,3,5]),(1000002,[2,3,6])],[(11,[(some 2),(some 2),none,none,none,(some 3),(some 3),none,none,none,none,none]),(6,[(some 2),(some 2),none,none,none,(some 3),(some 3),none,none,none,none])]⟩ Tryz.f49 = some F49 := by kernel_rfl
theorem F49_fn:FnOK2 Tryz.prog 49 (.pl F49):=.pl Tryz.func49 (by kernel_rfl) F49_ok
theorem F50_ok : prepF Tryz.prog ⟨[],[(0,[0,1]),(1,[0,1,5]),(2,[0,1,5,9]),(3,[0,1,5]),(4,[0,1,5,17]),(5,[4]),(6,[4]),(1000000,[0,1,5])],[]⟩ Tryz.f50 = some F50 := by kernel_rfl
theorem F50_fn:FnOK2 Tryz.prog 50 (.pl F50):=.pl Tryz.func50 (by kernel_rfl) F50_ok
abbrev N52:Note:=⟨[],[(0,[0,1]),(1,[4])],[]⟩
def F52:DF:=pF N52 Tryz.f52
theorem F52_ok:prepF Tryz.prog N52 Tryz.f52=some F52:=by kernel_rfl
theorem F52_fn:FnOK2 Tryz.prog 52 (.pl F52):=.pl Tryz.func52 (by kernel_rfl) F52_ok
theorem F53_ok : prepF Tryz.prog ⟨[],[(0,[0]),(1,[0,3]),(2,[0,3,9]),(3,[0,3,5]),(4,[0,3,5,18]),(5,[2]),(6,[0,3]),(7,[2]),(1000000,[0,3])],[]⟩ Tryz.f53 = some F53 := by kernel_rfl
theorem F53_fn:FnOK2 Tryz.prog 53 (.pl F53):=.pl Tryz.func53 (by kernel_rfl) F53_ok
theorem F54_ok : prepG Tryz.prog ⟨[],[(0,[0,1]),(1,[0,1,6]),(2,[0,1,2,3]),(3,[0,1,2,13]),(4,[0,2]),(5,[])],[]⟩ Tryz.f54 = some F54 := by kernel_rfl
theorem F54_fn : FnOK2 Tryz.prog 54 (.rc F54) := .rc Tryz.func54 (by kernel_rfl) F54_ok
abbrev N55:Note:=⟨[],[(0,[0,1]),(1,[0,1,5]),(2,[0,1,5,32]),(3,[0,1,5]),(4,[4]),(1000000,[0,1,5])],[]⟩
def F55:DF:=pF N55 Tryz.f55
theorem F55_ok:prepF Tryz.prog N55 Tryz.f55=some F55:=by kernel_rfl
theorem F55_fn:FnOK2 Tryz.prog 55 (.pl F55):=.pl Tryz.func55 (by kernel_rfl) F55_ok
abbrev N56:Note:=⟨[],[(0,[0]),(1,[2])],[]⟩
def F56:DF:=pF N56 Tryz.f56
theorem F56_ok:prepF Tryz.prog N56 Tryz.f56=some F56:=by kernel_rfl
theorem F56_fn:FnOK2 Tryz.prog 56 (.pl F56):=.pl Tryz.func56 (by kernel_rfl) F56_ok
abbrev N57:Note:=⟨[],[(0,[0,1]),(1,[4])],[]⟩
def F57:DF:=pF N57 Tryz.f57
theorem F57_ok:prepF Tryz.prog N57 Tryz.f57=some F57:=by kernel_rfl
theorem F57_fn:FnOK2 Tryz.prog 57 (.pl F57):=.pl Tryz.func57 (by kernel_rfl) F57_ok
abbrev N58:Note:=⟨[],[(0,[0,1,3,9]),(1,[0,1,3]),(2,[0,1]),(3,[1,24]),(4,[])],[]⟩
def F58:DF:=pF N58 Tryz.f58
theorem F58_ok:prepF Tryz.prog N58 Tryz.f58=some F58:=by kernel_rfl
theorem F58_fn:FnOK2 Tryz.prog 58 (.pl F58):=.pl Tryz.func58 (by kernel_rfl) F58_ok
abbrev N59:Note:=⟨[],[(0,[0]),(1,[0,3,4,5]),(2,[0,3,4,5,21]),(3,[0,3,4]),(4,[3]),(5,[2])],[]⟩
def F59:DF:=pF N59 Tryz.f59
theorem F59_ok:prepF Tryz.prog N59 Tryz.f59=some F59:=by kernel_rfl
theorem F59_fn:FnOK2 Tryz.prog 59 (.pl F59):=.pl Tryz.func59 (by kernel_rfl) F59_ok
abbrev N60:Note:=⟨[2,4,5],[(0,[1,2,4]),(1,[1,2,4,5]),(2,[1,2,4,5]),(3,[1,2,4,5]),(4,[1,2,4,5,14]),(5,[4,5]),(6,[4]),(7,[1,2,4,5]),(8,[1,2,4,5]),(9,[1,2,4,5]),(10,[1,2,4,5,40]),(11,[4,5]),(12,[4]),(13,[1,2,4,5]),(1000000,[1,2,4,5])],[(8,[(some 5),(some 5),(some 2),none,none,none,none,none,(some 5),(some 5)])]⟩
def F60:DF:=pF N60 Tryz.f60
theorem F60_ok:prepF Tryz.prog N60 Tryz.f60=some F60:=by kernel_rfl
theorem F60_fn:FnOK2 Tryz.prog 60 (.pl F60):=.pl Tryz.func60 (by kernel_rfl) F60_ok
abbrev N61:Note:=⟨[2,4,5],[(0,[1,2,4]),(1,[1,2,4,5]),(2,[1,2,4,5,6]),(3,[1,2,4,5,6]),(4,[1,2,4,5,6]),(5,[1,2,4,5,6,18]),(6,[4,5]),(7,[4]),(8,[1,2,4,5,6]),(9,[1,2,4,5,6,7]),(10,[1,2,4,5,6,7,38]),(11,[1,2,4,5,6,7]),(12,[1,2,4,5,6,7,8]),(13,[1,2,4,5,6,7,8]),(14,[1,2,4,5,6,7,8,52]),(15,[1,2,4,5,6,8]),(16,[1,2,4,5,6,8]),(17,[1,2,4,5,6,8]),(18,[1,2,4,5,6,8]),(19,[1,2,4,5,6]),(20,[1,2,4,5,6]),(21,[1,2,4,5,6]),(22,[1,2,4,5,6,82]),(23,[4,5]),(24,[4]),(25,[1,2,4,5,6]),(1000000,[1,2,4,5,6])],[(20,[(some 5),(some 5),(some 2),none,none,none,none,none,(some 5),(some 5)])]⟩
def F61:DF:=pF N61 Tryz.f61
theorem F61_ok:prepF Tryz.prog N61 Tryz.f61=some F61:=by kernel_rfl
theorem F61_fn:FnOK2 Tryz.prog 61 (.pl F61):=.pl Tryz.func61 (by kernel_rfl) F61_ok
abbrev N62:Note:=⟨[],[(0,[0]),(1,[2])],[]⟩
def F62:DF:=pF N62 Tryz.f62
theorem F62_ok:prepF Tryz.prog N62 Tryz.f62=some F62:=by kernel_rfl
theorem F62_fn:FnOK2 Tryz.prog 62 (.pl F62):=.pl Tryz.func62 (by kernel_rfl) F62_ok
abbrev N63:Note:=⟨[],[(0,[0]),(1,[2])],[]⟩
def F63:DF:=pF N63 Tryz.f63
theorem F63_ok:prepF Tryz.prog N63 Tryz.f63=some F63:=by kernel_rfl
theorem F63_fn:FnOK2 Tryz.prog 63 (.pl F63):=.pl Tryz.func63 (by kernel_rfl) F63_ok
theorem F64_ok : prepF Tryz.prog ⟨[],[(0,[0]),(1,[0,11]),(2,[2]),(3,[0]),(4,[3,4,5]),(5,[2])],[]⟩ Tryz.f64 = some F64 := by kernel_rfl
theorem F64_fn:FnOK2 Tryz.prog 64 (.pl F64):=.pl Tryz.func64 (by kernel_rfl) F64_ok
abbrev N65:Note:=⟨[],[(0,[])],[]⟩
def F65:DF:=pF N65 Tryz.f65
theorem F65_ok:prepF Tryz.prog N65 Tryz.f65=some F65:=by kernel_rfl
theorem F65_fn:FnOK2 Tryz.prog 65 (.pl F65):=.pl Tryz.func65 (by kernel_rfl) F65_ok
abbrev N66:Note:=⟨[2],[(0,[0,2]),(1,[0,2,3]),(2,[0,2,3,11]),(3,[2,3,4,5]),(4,[2,3,4,5,53]),(5,[2,4]),(6,[2]),(7,[0,2,3,59]),(8,[0,2,3,6]),(9,[0,2,3,6,84]),(10,[0,2,3,6,84,85]),(11,[2]),(12,[0,2,3,6,84,88]),(13,[0,2,3,6,88]),(14,[2]),(15,[0,2]),(16,[2]),(17,[2])],[]⟩
def F66:DF:=pF N66 Tryz.f66
theorem F66_ok:prepF Tryz.prog N66 Tryz.f66=some F66:=by kernel_rfl
theorem F66_fn:FnOK2 Tryz.prog 66 (.pl F66):=.pl Tryz.func66 (by kernel_rfl) F66_ok
theorem F67_ok : prepF Tryz.prog ⟨[4],[(0,[0]),(1,[4,5]),(2,[4,5,12]),(3,[2,3]),(4,[2,3])],[]⟩ Tryz.f67 = some F67 := by kernel_rfl
theorem F67_fn:FnOK2 Tryz.prog 67 (.pl F67):=.pl Tryz.func67 (by kernel_rfl) F67_ok
theorem F68_ok : prepF Tryz.prog ⟨[],[(0,[0]),(1,[2])],[]⟩ Tryz.f68 = some F68 := by kernel_rfl
theorem F68_fn:FnOK2 Tryz.prog 68 (.pl F68):=.pl Tryz.func68 (by kernel_rfl) F68_ok
theorem F69_ok : prepF Tryz.prog ⟨[],[(0,[0]),(1,[0,3]),(2,[3,7,8,9]),(3,[3,7,8,9,10]),(4,[3,5,7,8,9]),(5,[3,5,7,8,9]),(6,[3,7,8,9,25]),(7,[2]),(8,[3,7,8,9]),(9,[2]),(1000000,[3,7,8,9])],[]⟩ Tryz.f69 = some F69 := by kernel_rfl
theorem F69_fn:FnOK2 Tryz.prog 69 (.pl F69):=.pl Tryz.func69 (by kernel_rfl) F69_ok
theorem F70_ok : prepF Tryz.prog ⟨[],[(0,[0,1]),(1,[0,1,10]),(2,[4]),(3,[0,1,12,13]),(4,[0,1,12,13,14]),(5,[0,1,5,12,13]),(6,[0,1,12,13,24]),(7,[4]),(8,[0,1,12,13]),(9,[4]),(1000000,[0,1,12,13])],[]⟩ Tryz.f70 = some F70 := by kernel_rfl
theorem F70_fn:FnOK2 Tryz.prog 70 (.pl F70):=.pl Tryz.func70 (by kernel_rfl) F70_ok
theorem F71_ok : prepF Tryz.prog ⟨[8,9],[(0,[0,1,2]),(1,[0,1,2,14]),(2,[6]),(3,[1,2,15,16,17]),(4,[1,2,15,16,17,18]),(5,[1,2,7,8,15,16,17]),(6,[1,2,8,9,15,16,17]),(7,[1,2,15,16,17,30]),(8,[6]),(9,[1,2,15,16,17]),(10,[6]),(1000000,[1,2,15,16,17])],[]⟩ Tryz.f71 = some F71 := by kernel_rfl
theorem F71_fn:FnOK2 Tryz.prog 71 (.pl F71):=.pl Tryz.func71 (by kernel_rfl) F71_ok
theorem F72_ok : prepF Tryz.prog ⟨[],[(0,[1]),(1,[1,3]),(2,[1,3,9,10]),(3,[1,3,9,10,11]),(4,[1,3,4,9,10]),(5,[1,3,9,10]),(6,[1,3,9,10]),(7,[3]),(8,[2]),(1000000,[1,3,9,10])],[]⟩ Tryz.f72 = some F72 := by kernel_rfl
theorem F72_fn:FnOK2 Tryz.prog 72 (.pl F72):=.pl Tryz.func72 (by kernel_rfl) F72_ok
theorem F73_ok : prepF Tryz.prog ⟨[4],[(0,[0]),(1,[4,5]),(2,[4,5,12]),(3,[2,3]),(4,[2,3])],[]⟩ Tryz.f73 = some F73 := by kernel_rfl
theorem F73_fn:FnOK2 Tryz.prog 73 (.pl F73):=.pl Tryz.func73 (by kernel_rfl) F73_ok
theorem F74_ok : prepF Tryz.prog ⟨[4],[(0,[0]),(1,[4]),(2,[2])],[]⟩ Tryz.f74 = some F74 := by kernel_rfl
theorem F74_fn:FnOK2 Tryz.prog 74 (.pl F74):=.pl Tryz.func74 (by kernel_rfl) F74_ok
theorem F75_ok : prepF Tryz.prog ⟨[],[(0,[0]),(1,[0,12]),(2,[2]),(3,[0,26]),(4,[2]),(5,[3]),(6,[3,30]),(7,[2]),(8,[3,4]),(9,[3,4,37]),(10,[2]),(11,[3,4,65]),(12,[2]),(13,[3,4,5]),(14,[3,4,5,6]),(15,[2])],[]⟩ Tryz.f75 = some F75 := by kernel_rfl
theorem F75_fn:FnOK2 Tryz.prog 75 (.pl F75):=.pl Tryz.func75 (by kernel_rfl) F75_ok
theorem F78_ok : prepF Tryz.prog ⟨[],[(0,[0]),(1,[0,7]),(2,[2,3]),(3,[0,2,3,4]),(4,[0,2,3,4,22]),(5,[2,3]),(6,[0,2,3,4,5]),(7,[0,2,3,4,5,25]),(8,[0,2,3,4,5]),(9,[0,2,3,4,5,32]),(10,[2,3]),(11,[0,2,3,4,5]),(12,[2,3,48]),(13,[2,3]),(14,[2,3]),(1000000,[0,2,3,4,5])],[]⟩ Tryz.f78 = some F78 := by kernel_rfl
theorem F78_fn:FnOK2 Tryz.prog 78 (.pl F78):=.pl Tryz.func78 (by kernel_rfl) F78_ok
abbrev N79:Note:=⟨[],[(0,[0]),(1,[0,11]),(2,[2,3,4]),(3,[0,15]),(4,[2,3,4]),(5,[0,5]),(6,[0,5,6]),(7,[0,5,6,20]),(8,[0,5,6,7]),(9,[0,5,6]),(10,[0,5,6]),(11,[0,5,6,7,30]),(12,[2,3,4]),(13,[0,5,6,7,37]),(14,[2,3,4]),(15,[0,5,6,7,42]),(16,[0,5,6,8,9]),(17,[0,5,6,8,9,54]),(18,[2,3,4]),(19,[0,5,6,9]),(20,[0,5,6]),(21,[2,3,4]),(1000000,[0,5,6])],[]⟩
def F79:DF:=pF N79 Tryz.f79
theorem F79_ok:prepF Tryz.prog N79 Tryz.f79=some F79:=by kernel_rfl
theorem F79_fn:FnOK2 Tryz.prog 79 (.pl F79):=.pl Tryz.func79 (by kernel_rfl) F79_ok
abbrev N80:Note:=⟨[],[(0,[0,7]),(1,[0]),(2,[])],[]⟩
def F80:DF:=pF N80 Tryz.f80
theorem F80_ok:prepF Tryz.prog N80 Tryz.f80=some F80:=by kernel_rfl
theorem F80_fn:FnOK2 Tryz.prog 80 (.pl F80):=.pl Tryz.func80 (by kernel_rfl) F80_ok
abbrev N81:Note:=⟨[],[(0,[0]),(1,[2])],[]⟩
def F81:DF:=pF N81 Tryz.f81
theorem F81_ok:prepF Tryz.prog N81 Tryz.f81=some F81:=by kernel_rfl
theorem F81_fn:FnOK2 Tryz.prog 81 (.pl F81):=.pl Tryz.func81 (by kernel_rfl) F81_ok
abbrev N82:Note:=⟨[],[(0,[0]),(1,[2])],[]⟩
def F82:DF:=pF N82 Tryz.f82
theorem F82_ok:prepF Tryz.prog N82 Tryz.f82=some F82:=by kernel_rfl
theorem F82_fn:FnOK2 Tryz.prog 82 (.pl F82):=.pl Tryz.func82 (by kernel_rfl) F82_ok
theorem F83_ok : prepF Tryz.prog ⟨[],[(0,[0]),(1,[0,33]),(2,[2]),(3,[2])],[]⟩ Tryz.f83 = some F83 := by kernel_rfl
theorem F83_fn:FnOK2 Tryz.prog 83 (.pl F83):=.pl Tryz.func83 (by kernel_rfl) F83_ok
theorem F84_ok : prepF Tryz.prog ⟨[],[(0,[0]),(1,[0,34]),(2,[2]),(3,[0,37]),(4,[2]),(5,[0,3]),(6,[2])],[]⟩ Tryz.f84 = some F84 := by kernel_rfl
theorem F84_fn:FnOK2 Tryz.prog 84 (.pl F84):=.pl Tryz.func84 (by kernel_rfl) F84_ok
theorem F85_ok : prepF Tryz.prog ⟨[],[(0,[0]),(1,[0,6]),(2,[2,3]),(3,[0,30]),(4,[2,3]),(5,[0,4]),(6,[0,4,51]),(7,[2,3]),(8,[2,3])],[]⟩ Tryz.f85 = some F85 := by kernel_rfl
theorem F85_fn:FnOK2 Tryz.prog 85 (.pl F85):=.pl Tryz.func85 (by kernel_rfl) F85_ok
theorem F86_ok : prepF Tryz.prog ⟨[],[(0,[0,1]),(1,[4,5,6])],[]⟩ Tryz.f86 = some F86 := by kernel_rfl
theorem F86_fn:FnOK2 Tryz.prog 86 (.pl F86):=.pl Tryz.func86 (by kernel_rfl) F86_ok
theorem F87_ok : prepF Tryz.prog ⟨[2],[(0,[0,2]),(1,[0,2,4,5,6,7,8]),(2,[0,2,4,5,6,7,21]),(3,[2,3]),(4,[2,4,5,6,7,25]),(5,[2,3]),(6,[2,4,5,6,8,9]),(7,[2,4,5,6,9,33]),(8,[2,3]),(9,[2,4,6,9,10]),(10,[2,4,9,10]),(11,[2,4,9,10,11]),(12,[2,4,9,11]),(13,[2,4,9,11,53]),(14,[2,3]),(15,[2,3])],[]⟩ Tryz.f87 = some F87 := by kernel_rfl
theorem F87_fn:FnOK2 Tryz.prog 87 (.pl F87):=.pl Tryz.func87 (by kernel_rfl) F87_ok
theorem F88_ok : prepF Tryz.prog ⟨[1],[(0,[1]),(1,[1,4]),(2,[1,4,9]),(3,[1,4,9]),(4,[1,4,9]),(5,[2,3]),(6,[1,4,42]),(7,[2,3]),(8,[1,51]),(9,[2,3]),(10,[1,5]),(11,[1,5,57]),(12,[1,5]),(13,[1,5,62]),(14,[5]),(15,[5,71]),(16,[2,3]),(17,[2,3])],[]⟩ Tryz.f88 = some F88 := by kernel_rfl
theorem F88_fn:FnOK2 Tryz.prog 88 (.pl F88):=.pl Tryz.func88 (by kernel_rfl) F88_ok
theorem F89_ok : prepF Tryz.prog ⟨[],[(0,[])],[]⟩ Tryz.f89 = some F89 := by kernel_rfl
theorem F89_fn:FnOK2 Tryz.prog 89 (.pl F89):=.pl Tryz.func89 (by kernel_rfl) F89_ok
theorem F90_ok : prepF Tryz.prog ⟨[],[(0,[0,1,2]),(1,[5])],[]⟩ Tryz.f90 = some F90 := by kernel_rfl
theorem F90_fn:FnOK2 Tryz.prog 90 (.pl F90):=.pl Tryz.func90 (by kernel_rfl) F90_ok
theorem F91_ok : prepF Tryz.prog ⟨[],[(0,[0,1]),(1,[4])],[]⟩ Tryz.f91 = some F91 := by kernel_rfl
theorem F91_fn:FnOK2 Tryz.prog 91 (.pl F91):=.pl Tryz.func91 (by kernel_rfl) F91_ok
theorem F92_ok : prepF Tryz.prog ⟨[2],[(0,[0,2]),(1,[0,2,4]),(2,[0,2,4,24]),(3,[0,2,4]),(4,[0,2,4,5]),(5,[0,2,4,5,44]),(6,[2,3]),(7,[0,2,5,6]),(8,[0,2,5,6,7]),(9,[0,2,5,6,7,59]),(10,[0,2,5,6,8]),(11,[0,2,5,6,8,67]),(12,[2,3]),(13,[0,2,6,7,8]),(14,[0,2,5,6,7]),(15,[0,2,5,6,7,9]),(16,[0,2,5,6,7,9,10]),(17,[0,2,5,6,7,9,10,90]),(18,[0,2,5,6,7,10]),(19,[0,2,5,6,7,10,108]),(20,[0,2,5,6,7,10]),(21,[0,2,5,6,7,10]),(22,[0,2,5,6,7,10,11]),(23,[0,2,5,6,7,10,11,120]),(24,[2,3]),(25,[0,2,6,7,9,10,11]),(26,[0,2,5,6,7,9,10]),(27,[0,2,6,7,9,10,130]),(28,[2,3]),(29,[0,2,6,7,9,10,134]),(30,[2,3]),(31,[0,2,6,7,9,10,143]),(32,[0,2,6,7,9,10]),(33,[0,2,6,7,9,10,148]),(34,[2,3]),(35,[0,2,6,7,9,10,12]),(36,[0,2,6,7,9,10,12,13]),(37,[0,2,6,7,9,10,12,13,153]),(38,[0,2,6,7,9,10,12,13]),(39,[0,2,6,7,9,10,12,13]),(40,[0,2,6,7,12,164]),(41,[0,2,6,7,12]),(42,[0,2,6,7,12]),(43,[0,2,12,14]),(44,[0,2,12,14,184]),(45,[0,2,12,14]),(46,[0,2,12,14]),(47,[0,2,12,14,199]),(48,[0,2,12,14]),(49,[0,2,12,14,203]),(50,[2,3]),(51,[2,3]),(1000000,[0,2,6,7,9,10]),(1000002,[0,2,6,7,9,10,12,13]),(1000004,[0,2,12,14]),(1000006,[0,2,12,14])],[]⟩ Tryz.f92 = some F92 := by kernel_rfl
theorem F92_fn:FnOK2 Tryz.prog 92 (.pl F92):=.pl Tryz.func92 (by kernel_rfl) F92_ok
theorem F93_ok : prepF Tryz.prog ⟨[1],[(0,[1]),(1,[1,4]),(2,[1,4,5]),(3,[1,4,5,12]),(4,[1,4,5]),(5,[1,4,5,20]),(6,[2,3]),(7,[1,4,49]),(8,[2,3]),(9,[1,4,57]),(10,[2,3]),(11,[1,59]),(12,[2,3]),(13,[1,6]),(14,[1,6,63]),(15,[1,6]),(16,[1,6,68]),(17,[6]),(18,[6,77]),(19,[2,3]),(20,[2,3]),(1000000,[1,4,5])],[]⟩ Tryz.f93 = some F93 := by kernel_rfl
theorem F93_fn:FnOK2 Tryz.prog 93 (.pl F93):=.pl Tryz.func93 (by kernel_rfl) F93_ok
theorem F94_ok : prepF Tryz.prog ⟨[3],[(0,[0,3]),(1,[0,3,4]),(2,[0,3,4,5]),(3,[0,3,4,5,11]),(4,[0,3,4,5,6,7]),(5,[0,3,4,5,6,7,19]),(6,[2,3]),(7,[0,3,4,5,7]),(8,[0,3,4,5]),(9,[2,3]),(1000000,[0,3,4,5])],[]⟩ Tryz.f94 = some F94 := by kernel_rfl
theorem F94_fn:FnOK2 Tryz.prog 94 (.pl F94):=.pl Tryz.func94 (by kernel_rfl) F94_ok
theorem F95_ok : prepF Tryz.prog ⟨[],[(0,[0]),(1,[0,19]),(2,[2]),(3,[0,3]),(4,[0,3,4]),(5,[3,4,5]),(6,[3,4,5,39]),(7,[2]),(8,[3,4,5,6]),(9,[3,4,5,6,53]),(10,[3,4,5,6]),(11,[3,5,6,55]),(12,[3,5,6]),(13,[5,6,68]),(14,[5,6]),(15,[2])],[]⟩ Tryz.f95 = some F95 := by kernel_rfl
theorem F95_fn:FnOK2 Tryz.prog 95 (.pl F95):=.pl Tryz.func95 (by kernel_rfl) F95_ok
theorem F96_ok : prepF Tryz.prog ⟨[],[(0,[0]),(1,[0,18]),(2,[2]),(3,[0,3]),(4,[0,3,4]),(5,[0,3,4,5]),(6,[0,46]),(7,[2]),(8,[0,49]),(9,[2]),(10,[2])],[]⟩ Tryz.f96 = some F96 := by kernel_rfl
theorem F96_fn:FnOK2 Tryz.prog 96 (.pl F96):=.pl Tryz.func96 (by kernel_rfl) F96_ok
theorem F97_ok : prepF Tryz.prog ⟨[],[(0,[0,1,2]),(1,[0,1,2,7]),(2,[0,1,2,7,8]),(3,[0,1,2,7,8,14]),(4,[0,1,2,7,8]),(5,[0,1,2,7,8,32]),(6,[6]),(7,[0,1,2,7,8]),(8,[6]),(1000000,[0,1,2,7,8])],[]⟩ Tryz.f97 = some F97 := by kernel_rfl
theorem F97_fn:FnOK2 Tryz.prog 97 (.pl F97):=.pl Tryz.func97 (by kernel_rfl) F97_ok
theorem F99_ok : prepF Tryz.prog ⟨[],[(0,[0]),(1,[0,5]),(2,[2,3,4]),(3,[0,11]),(4,[2,3,4]),(5,[0,18]),(6,[2,3,4]),(7,[0,25]),(8,[2,3,4]),(9,[2,3,4])],[]⟩ Tryz.f99 = some F99 := by kernel_rfl
theorem F99_fn:FnOK2 Tryz.prog 99 (.pl F99):=.pl Tryz.func99 (by kernel_rfl) F99_ok
theorem F100_ok : prepF Tryz.prog ⟨[],[(0,[0]),(1,[2])],[]⟩ Tryz.f100 = some F100 := by kernel_rfl
theorem F100_fn:FnOK2 Tryz.prog 100 (.pl F100):=.pl Tryz.func100 (by kernel_rfl) F100_ok
abbrev N101:Note:=⟨[],[(0,[0]),(1,[0,5]),(2,[2,3]),(3,[0,7]),(4,[0,7,8]),(5,[0,7,8]),(6,[0,7,8]),(7,[2,3]),(8,[0,7,15]),(9,[2,3]),(10,[0,7,17]),(11,[2,3]),(12,[0,7,19]),(13,[2,3]),(14,[0,7,21]),(15,[2,3]),(16,[0,7,23]),(17,[2,3]),(18,[0,25]),(19,[2,3]),(20,[2,3])],[]⟩
def F101:DF:=pF N101 Tryz.f101
theorem F101_ok:prepF Tryz.prog N101 Tryz.f101=some F101:=by kernel_rfl
theorem F101_fn:FnOK2 Tryz.prog 101 (.pl F101):=.pl Tryz.func101 (by kernel_rfl) F101_ok
abbrev N102:Note:=⟨[],[(0,[0,3]),(1,[0,3,5]),(2,[0,3,5,7]),(3,[4]),(4,[0,3,5,15]),(5,[4]),(6,[0,3,5,27]),(7,[4]),(8,[4])],[]⟩
def F102:DF:=pF N102 Tryz.f102
theorem F102_ok:prepF Tryz.prog N102 Tryz.f102=some F102:=by kernel_rfl
theorem F102_fn:FnOK2 Tryz.prog 102 (.pl F102):=.pl Tryz.func102 (by kernel_rfl) F102_ok
theorem F103_ok : prepF Tryz.prog ⟨[],[(0,[0]),(1,[0,25]),(2,[2]),(3,[2])],[]⟩ Tryz.f103 = some F103 := by kernel_rfl
theorem F103_fn:FnOK2 Tryz.prog 103 (.pl F103):=.pl Tryz.func103 (by kernel_rfl) F103_ok
theorem F104_ok : prepF Tryz.prog ⟨[],[(0,[0,1,2]),(1,[6])],[]⟩ Tryz.f104 = some F104 := by kernel_rfl
theorem F104_fn:FnOK2 Tryz.prog 104 (.pl F104):=.pl Tryz.func104 (by kernel_rfl) F104_ok
theorem F105_ok : prepF Tryz.prog ⟨[],[(0,[0,1]),(1,[0,5]),(2,[0,5,6]),(3,[0,5,6]),(4,[0,5,6]),(5,[0,5,6]),(6,[4]),(7,[0,11]),(8,[25]),(9,[4]),(10,[4]),(11,[4])],[]⟩ Tryz.f105 = some F105 := by kernel_rfl
theorem F105_fn:FnOK2 Tryz.prog 105 (.pl F105):=.pl Tryz.func105 (by kernel_rfl) F105_ok
abbrev N106:Note:=⟨[],[(0,[0,1]),(1,[0,1,12]),(2,[4]),(3,[0,1,21]),(4,[4]),(5,[0,1,5,6]),(6,[0,1,5,34]),(7,[4]),(8,[4])],[]⟩
def F106:DF:=pF N106 Tryz.f106
theorem F106_ok:prepF Tryz.prog N106 Tryz.f106=some F106:=by kernel_rfl
theorem F106_fn:FnOK2 Tryz.prog 106 (.pl F106):=.pl Tryz.func106 (by kernel_rfl) F106_ok
theorem F107_ok : prepF Tryz.prog ⟨[],[(0,[0,1]),(1,[4])],[]⟩ Tryz.f107 = some F107 := by kernel_rfl
theorem F107_fn:FnOK2 Tryz.prog 107 (.pl F107):=.pl Tryz.func107 (by kernel_rfl) F107_ok
theorem F108_ok : prepF Tryz.prog ⟨[],[(0,[0,1]),(1,[0,1,7]),(2,[0,1,7,12]),(3,[4,5,6]),(4,[4,5,6])],[]⟩ Tryz.f108 = some F108 := by kernel_rfl
theorem F108_fn:FnOK2 Tryz.prog 108 (.pl F108):=.pl Tryz.func108 (by kernel_rfl) F108_ok
theorem F109_ok : prepF Tryz.prog ⟨[],[(0,[0,4]),(1,[4,7]),(2,[2,4,7]),(3,[2,4,7,13]),(4,[2,4,7]),(5,[2,4,7,8]),(6,[2,4,7,8,28]),(7,[2,3,4,5,6]),(8,[2,3,4,7]),(9,[2,3,4,7,36]),(10,[2,3,7,8]),(11,[2,3,7,8,41]),(12,[2,3,4,5,6]),(13,[2,3,4,7]),(14,[2,3,4,7,51]),(15,[2,3,4,5,6]),(16,[2,3,4,7,62]),(17,[2,3,4,5,6]),(18,[2,3,4,5]),(19,[2,3,4,5,9]),(20,[2,3,4,5,9,69]),(21,[2,3,4,5,9]),(22,[2,3,4,5,80]),(23,[2,3,4,5,6]),(24,[2,3,4,5,6])],[]⟩ Tryz.f109 = some F109 := by kernel_rfl
theorem F109_fn:FnOK2 Tryz.prog 109 (.pl F109):=.pl Tryz.func109 (by kernel_rfl) F109_ok
theorem F110_ok : prepF Tryz.prog ⟨[],[(0,[0]),(1,[0,4]),(2,[0,4]),(3,[0,4,14]),(4,[2,3]),(5,[4,5]),(6,[5,21]),(7,[2,3]),(8,[2,3])],[]⟩ Tryz.f110 = some F110 := by kernel_rfl
theorem F110_fn:FnOK2 Tryz.prog 110 (.pl F110):=.pl Tryz.func110 (by kernel_rfl) F110_ok
abbrev N111:Note:=⟨[],[(0,[0,1]),(1,[0,1,12]),(2,[4]),(3,[0,1,21]),(4,[4]),(5,[0,1,5,6]),(6,[0,1,5,31]),(7,[4]),(8,[4])],[]⟩
def F111:DF:=pF N111 Tryz.f111
theorem F111_ok:prepF Tryz.prog N111 Tryz.f111=some F111:=by kernel_rfl
theorem F111_fn:FnOK2 Tryz.prog 111 (.pl F111):=.pl Tryz.func111 (by kernel_rfl) F111_ok
abbrev N112:Note:=⟨[],[(0,[0,1]),(1,[0,1,12]),(2,[4]),(3,[0,1,21]),(4,[4]),(5,[0,1,5,6]),(6,[0,1,5,31]),(7,[4]),(8,[4])],[]⟩
def F112:DF:=pF N112 Tryz.f112
theorem F112_ok:prepF Tryz.prog N112 Tryz.f112=some F112:=by kernel_rfl
theorem F112_fn:FnOK2 Tryz.prog 112 (.pl F112):=.pl Tryz.func112 (by kernel_rfl) F112_ok
theorem F113_ok : prepF Tryz.prog ⟨[],[(0,[0]),(1,[0,3]),(2,[0,3,13]),(3,[0,3]),(4,[2]),(1000000,[0,3])],[]⟩ Tryz.f113 = some F113 := by kernel_rfl
theorem F113_fn:FnOK2 Tryz.prog 113 (.pl F113):=.pl Tryz.func113 (by kernel_rfl) F113_ok
abbrev N114:Note:=⟨[],[(0,[0]),(1,[2])],[]⟩
def F114:DF:=pF N114 Tryz.f114
theorem F114_ok:prepF Tryz.prog N114 Tryz.f114=some F114:=by kernel_rfl
theorem F114_fn:FnOK2 Tryz.prog 114 (.pl F114):=.pl Tryz.func114 (by kernel_rfl) F114_ok
theorem F115_ok : prepF Tryz.prog ⟨[],[(0,[0,1,2,6]),(1,[0,1,2,6,7,8]),(2,[0,1,2,6,7,8,13]),(3,[0,1,2,6,8]),(4,[0,1,2,6,7,8]),(5,[0,1,2,6,7,8]),(6,[0,1,2,6]),(7,[0,1,2,6,30]),(8,[0,1,2,6,7,8]),(9,[0,1,2,6,7,8,35]),(10,[0,1,2,6,8]),(11,[0,1,2,6,7,8]),(12,[0,1,2,6,7,8]),(13,[0,1,2,6,7,9]),(14,[0,1,2,6,7,9,54]),(15,[0,1,2,6]),(16,[0,1,2,6]),(1000000,[0,1,2,6,7,8]),(1000002,[0,1,2,6]),(1000004,[0,1,2,6,7,8])],[]⟩ Tryz.f115 = some F115 := by kernel_rfl
theorem F115_fn:FnOK2 Tryz.prog 115 (.pl F115):=.pl Tryz.func115 (by kernel_rfl) F115_ok
theorem F116_ok : prepF Tryz.prog ⟨[],[(0,[0,1]),(1,[4])],[]⟩ Tryz.f116 = some F116 := by kernel_rfl
theorem F116_fn:FnOK2 Tryz.prog 116 (.pl F116):=.pl Tryz.func116 (by kernel_rfl) F116_ok
theorem F117_ok : prepF Tryz.prog ⟨[],[(0,[0,1]),(1,[0,1,14]),(2,[0,1]),(3,[4]),(1000000,[0,1])],[]⟩ Tryz.f117 = some F117 := by kernel_rfl
theorem F117_fn:FnOK2 Tryz.prog 117 (.pl F117):=.pl Tryz.func117 (by kernel_rfl) F117_ok
theorem F118_ok : prepF Tryz.prog ⟨[],[(0,[0]),(1,[2])],[]⟩ Tryz.f118 = some F118 := by kernel_rfl
theorem F118_fn:FnOK2 Tryz.prog 118 (.pl F118):=.pl Tryz.func118 (by kernel_rfl) F118_ok
theorem F119_ok : prepF Tryz.prog ⟨[],[(0,[0]),(1,[0,6]),(2,[2]),(3,[3]),(4,[3,4]),(5,[3,4,17]),(6,[4]),(7,[2])],[]⟩ Tryz.f119 = some F119 := by kernel_rfl
theorem F119_fn:FnOK2 Tryz.prog 119 (.pl F119):=.pl Tryz.func119 (by kernel_rfl) F119_ok
theorem F120_ok : prepF Tryz.prog ⟨[],[(0,[0,1]),(1,[0,1,6]),(2,[0,1,6,17]),(3,[4,5]),(4,[0,1,6,7]),(5,[0,1,6,7,8]),(6,[0,1,6,7,8,9]),(7,[0,1,6,7,8,9,19]),(8,[0,1,6,7]),(9,[0,1,6,7,8]),(10,[0,1,7,8,9]),(11,[0,1,6,7,8,9,28]),(12,[0,1,6,7]),(13,[0,1,6,7,8]),(14,[0,1,7,8,9]),(15,[0,1,6,7,8,9,37]),(16,[0,1,6,7]),(17,[0,1,6,7,8]),(18,[0,1,7,8,9]),(19,[0,1,7,8,9,55]),(20,[4,5]),(21,[0,1,7,8,9,10]),(22,[0,1,7,8,9,10,58]),(23,[0,1,7,8,9,10]),(24,[0,1,7,8,9,10,11]),(25,[0,1,7,8,9,10,11,72]),(26,[4,5]),(27,[0,1,7,8,9,10]),(28,[7,9,85]),(29,[4,5]),(30,[4,5]),(1000001,[0,1,7,8,9,10])],[]⟩ Tryz.f120 = some F120 := by kernel_rfl
theorem F120_fn:FnOK2 Tryz.prog 120 (.pl F120):=.pl Tryz.func120 (by kernel_rfl) F120_ok
abbrev N121:Note:=⟨[],[(0,[0]),(1,[0,4]),(2,[0,4,14]),(3,[4,16]),(4,[2,3]),(5,[2,3]),(6,[0,4,25]),(7,[2,3]),(8,[4,5]),(9,[4,5,34]),(10,[2,3]),(11,[2,3])],[]⟩
def F121:DF:=pF N121 Tryz.f121
theorem F121_ok:prepF Tryz.prog N121 Tryz.f121=some F121:=by kernel_rfl
theorem F121_fn:FnOK2 Tryz.prog 121 (.pl F121):=.pl Tryz.func121 (by kernel_rfl) F121_ok
abbrev N122:Note:=⟨[],[(0,[0,1]),(1,[3])],[]⟩
def F122:DF:=pF N122 Tryz.f122
theorem F122_ok:prepF Tryz.prog N122 Tryz.f122=some F122:=by kernel_rfl
theorem F122_fn:FnOK2 Tryz.prog 122 (.pl F122):=.pl Tryz.func122 (by kernel_rfl) F122_ok
abbrev N123:Note:=⟨[],[(0,[0,1]),(1,[0,1,13]),(2,[0,1]),(3,[4]),(1000000,[0,1])],[]⟩
def F123:DF:=pF N123 Tryz.f123
theorem F123_ok:prepF Tryz.prog N123 Tryz.f123=some F123:=by kernel_rfl
theorem F123_fn:FnOK2 Tryz.prog 123 (.pl F123):=.pl Tryz.func123 (by kernel_rfl) F123_ok
abbrev N124:Note:=⟨[],[(0,[0,1]),(1,[0,1,16]),(2,[0,1]),(3,[4]),(1000000,[0,1])],[]⟩
def F124:DF:=pF N124 Tryz.f124
theorem F124_ok:prepF Tryz.prog N124 Tryz.f124=some F124:=by kernel_rfl
theorem F124_fn:FnOK2 Tryz.prog 124 (.pl F124):=.pl Tryz.func124 (by kernel_rfl) F124_ok
abbrev N125:Note:=⟨[2],[(0,[0,2]),(1,[0,2,4]),(2,[0,2,4,9]),(3,[0,2,4]),(4,[0,2,4,5]),(5,[0,2,4,5,16]),(6,[2,3]),(7,[0,2,4]),(8,[2,3]),(1000000,[0,2,4])],[]⟩
def F125:DF:=pF N125 Tryz.f125
theorem F125_ok:prepF Tryz.prog N125 Tryz.f125=some F125:=by kernel_rfl
theorem F125_fn:FnOK2 Tryz.prog 125 (.pl F125):=.pl Tryz.func125 (by kernel_rfl) F125_ok
abbrev N126:Note:=⟨[],[(0,[0,1]),(1,[0,1,7]),(2,[0,1,12]),(3,[0,1]),(4,[4]),(1000000,[0,1])],[]⟩
def F126:DF:=pF N126 Tryz.f126
theorem F126_ok:prepF Tryz.prog N126 Tryz.f126=some F126:=by kernel_rfl
theorem F126_fn:FnOK2 Tryz.prog 126 (.pl F126):=.pl Tryz.func126 (by kernel_rfl) F126_ok
abbrev N127:Note:=⟨[],[(0,[0,1]),(1,[0,1,7]),(2,[0,1,15]),(3,[0,1]),(4,[4]),(1000000,[0,1])],[]⟩
def F127:DF:=pF N127 Tryz.f127
theorem F127_ok:prepF Tryz.prog N127 Tryz.f127=some F127:=by kernel_rfl
theorem F127_fn:FnOK2 Tryz.prog 127 (.pl F127):=.pl Tryz.func127 (by kernel_rfl) F127_ok
abbrev N128:Note:=⟨[],[(0,[0,1]),(1,[0,1,9]),(2,[0,1,5,6]),(3,[0,1,6,18]),(4,[0,1]),(5,[4]),(1000000,[0,1])],[]⟩
def F128:DF:=pF N128 Tryz.f128
theorem F128_ok:prepF Tryz.prog N128 Tryz.f128=some F128:=by kernel_rfl
theorem F128_fn:FnOK2 Tryz.prog 128 (.pl F128):=.pl Tryz.func128 (by kernel_rfl) F128_ok
abbrev N129:Note:=⟨[],[(0,[0,1]),(1,[0,1,9]),(2,[0,1,5,6]),(3,[0,1,5,6,17]),(4,[0,1,5,6]),(5,[0,1,6,26]),(6,[0,1]),(7,[4]),(1000000,[0,1])],[]⟩
def F129:DF:=pF N129 Tryz.f129
theorem F129_ok:prepF Tryz.prog N129 Tryz.f129=some F129:=by kernel_rfl
theorem F129_fn:FnOK2 Tryz.prog 129 (.pl F129):=.pl Tryz.func129 (by kernel_rfl) F129_ok
theorem F130_ok : prepF Tryz.prog ⟨[],[(0,[0,1]),(1,[4])],[]⟩ Tryz.f130 = some F130 := by kernel_rfl
theorem F130_fn:FnOK2 Tryz.prog 130 (.pl F130):=.pl Tryz.func130 (by kernel_rfl) F130_ok
theorem F131_ok : prepF Tryz.prog ⟨[],[(0,[0,1]),(1,[0,1,5]),(2,[0,1,5,16]),(3,[4]),(4,[0,1,5,24]),(5,[4]),(6,[0,1,5,31]),(7,[4]),(8,[0,1,5,36]),(9,[4]),(10,[0,1,5,6]),(11,[0,1,5,6,7]),(12,[0,1,5,6,7,8]),(13,[0,1,5,6,7,8,9]),(14,[0,1,5,6,7,8,9,10]),(15,[0,1,5,6,7,8,9,10,59]),(16,[0,1,5,6,7,8,9,10,64]),(17,[0,1,5,6,7,8,9,10,11]),(18,[0,1,5,6,7,8,9,10,11,73]),(19,[4]),(20,[0,1,5,6,7,8,9,10]),(21,[0,1,5,6,7,8,9,10,93]),(22,[4]),(23,[0,1,5,6,7,8,9,10]),(24,[0,1,5,6,7,8,9,10]),(25,[0,1,5,6,7,8,9,10,107]),(26,[8,12]),(27,[8,12,114]),(28,[4]),(29,[4]),(30,[0,1,5,6,7,8,9,10,132]),(31,[8,13]),(32,[8,13,139]),(33,[4]),(34,[4]),(35,[4]),(1000001,[0,1,5,6,7,8,9,10])],[]⟩ Tryz.f131 = some F131 := by kernel_rfl
theorem F131_fn:FnOK2 Tryz.prog 131 (.pl F131):=.pl Tryz.func131 (by kernel_rfl) F131_ok
theorem F132_ok : prepF Tryz.prog ⟨[],[(0,[0,1]),(1,[4])],[]⟩ Tryz.f132 = some F132 := by kernel_rfl
theorem F132_fn:FnOK2 Tryz.prog 132 (.pl F132):=.pl Tryz.func132 (by kernel_rfl) F132_ok
theorem F133_ok : prepF Tryz.prog ⟨[],[(0,[0,1]),(1,[4])],[]⟩ Tryz.f133 = some F133 := by kernel_rfl
theorem F133_fn:FnOK2 Tryz.prog 133 (.pl F133):=.pl Tryz.func133 (by kernel_rfl) F133_ok
abbrev N134:Note:=⟨[],[(0,[0]),(1,[0,4,5]),(2,[0,4,5,12]),(3,[2,3]),(4,[2,3])],[]⟩
def F134:DF:=pF N134 Tryz.f134
theorem F134_ok:prepF Tryz.prog N134 Tryz.f134=some F134:=by kernel_rfl
theorem F134_fn:FnOK2 Tryz.prog 134 (.pl F134):=.pl Tryz.func134 (by kernel_rfl) F134_ok
theorem F135_ok : prepF Tryz.prog ⟨[],[(0,[0]),(1,[2])],[]⟩ Tryz.f135 = some F135 := by kernel_rfl
theorem F135_fn:FnOK2 Tryz.prog 135 (.pl F135):=.pl Tryz.func135 (by kernel_rfl) F135_ok
abbrev N136:Note:=⟨[],[(0,[0]),(1,[2])],[]⟩
def F136:DF:=pF N136 Tryz.f136
theorem F136_ok:prepF Tryz.prog N136 Tryz.f136=some F136:=by kernel_rfl
theorem F136_fn:FnOK2 Tryz.prog 136 (.pl F136):=.pl Tryz.func136 (by kernel_rfl) F136_ok
theorem F137_ok : prepF Tryz.prog ⟨[],[(0,[0,1,2,3,8]),(1,[0,1,2,3,8,14]),(2,[0,1,2,3,8]),(3,[0,1,2,3,8,9]),(4,[0,1,2,3,8,9,34]),(5,[0,1,2,3,8,9]),(6,[0,1,2,3,8,9]),(1000000,[0,1,2,3,8]),(1000002,[0,1,2,3,8,9])],[]⟩ Tryz.f137 = some F137 := by kernel_rfl
theorem F137_fn:FnOK2 Tryz.prog 137 (.pl F137):=.pl Tryz.func137 (by kernel_rfl) F137_ok
theorem F138_ok : prepF Tryz.prog ⟨[],[(0,[0,1,2,3,4,28]),(1,[0,1,3,4,10]),(2,[0,1,4,10,11]),(3,[0,1,4,10,11,33]),(4,[0,1,4,10,11,12]),(5,[0,1,4,10,11,12,50]),(6,[0,1,4,10,11]),(7,[0,1,4,10,11]),(8,[0,10,13]),(9,[0,10,13,58]),(10,[0,10,13]),(11,[0,10,13]),(12,[0,1,2,3,4,80]),(13,[0,2,4,14]),(14,[0,2,4,14,15]),(15,[0,2,4,14,15,85]),(16,[0,2,4,14,15,16]),(17,[0,2,4,14,15,16,103]),(18,[0,2,4,14,15]),(19,[0,2,4,14,15]),(20,[0,14,17]),(21,[0,14,17,110]),(22,[0,14,17]),(23,[0,14,17]),(24,[0,1,2,3,4,18]),(25,[0,1,2,3,4,18,19]),(26,[0,1,2,3,4,18,19]),(27,[0,1,2,3,4,18,19,140]),(28,[0,1,2,3,4,18,19,20]),(29,[0,1,2,3,4,18,19,20,21]),(30,[0,1,2,3,4,18,19,20]),(31,[0,1,2,3,4,18,19,20,21]),(32,[0,1,2,3,4,18,19,20,21,22]),(33,[0,1,2,3,4,18,19,20,21,22,151]),(34,[0,1,2,3,4,18,19,20,21,22,23]),(35,[0,1,2,3,4,18,19,20,21,22,23,171]),(36,[0,1,2,3,4,18,19,20,21,22]),(37,[0,1,2,3,4,18,19,20,21,22]),(38,[0,1,2,3,4,18,20,24]),(39,[0,1,2,3,4,18,20,24,185]),(40,[0,1,3,4,18,20,24]),(41,[0,1,3,4,18,20,24,199]),(42,[0,3,4,18,24]),(43,[0,3,4,18,24,213]),(44,[]),(1000000,[0,1,4,10,11]),(1000002,[0,10,13]),(1000004,[0,2,4,14,15]),(1000006,[0,14,17]),(1000008,[0,1,2,3,4,18,19,20,21,22])],[]⟩ Tryz.f138 = some F138 := by kernel_rfl
theorem F138_fn:FnOK2 Tryz.prog 138 (.pl F138):=.pl Tryz.func138 (by kernel_rfl) F138_ok
theorem F140_ok : prepF Tryz.prog ⟨[],[(0,[0]),(1,[0,3]),(2,[0,3,8]),(3,[0,3]),(4,[0,3]),(5,[3]),(6,[3,4]),(7,[3,4,5]),(8,[3,4,5,29]),(9,[3,4,5]),(10,[3,4,5]),(11,[2]),(1000000,[0,3]),(1000002,[3,4,5])],[]⟩ Tryz.f140 = some F140 := by kernel_rfl
theorem F140_fn:FnOK2 Tryz.prog 140 (.pl F140):=.pl Tryz.func140 (by kernel_rfl) F140_ok
theorem F141_ok : prepF Tryz.prog ⟨[],[(0,[0]),(1,[2])],[]⟩ Tryz.f141 = some F141 := by kernel_rfl
theorem F141_fn:FnOK2 Tryz.prog 141 (.pl F141):=.pl Tryz.func141 (by kernel_rfl) F141_ok
abbrev N142:Note:=⟨[],[(0,[0,1]),(1,[0,1,11]),(2,[4]),(3,[0,1,5]),(4,[0,5,12,13]),(5,[0,5,12,13,14]),(6,[0,5,6,12,13]),(7,[0,5,7,12,13]),(8,[0,5,7,12,13,21]),(9,[4]),(10,[0,5,12,13]),(11,[0,5,12,13]),(12,[4]),(1000000,[0,5,12,13])],[]⟩
def F142:DF:=pF N142 Tryz.f142
theorem F142_ok:prepF Tryz.prog N142 Tryz.f142=some F142:=by kernel_rfl
theorem F142_fn:FnOK2 Tryz.prog 142 (.pl F142):=.pl Tryz.func142 (by kernel_rfl) F142_ok
abbrev N143:Note:=⟨[],[(0,[0,1]),(1,[4])],[]⟩
def F143:DF:=pF N143 Tryz.f143
theorem F143_ok:prepF Tryz.prog N143 Tryz.f143=some F143:=by kernel_rfl
theorem F143_fn:FnOK2 Tryz.prog 143 (.pl F143):=.pl Tryz.func143 (by kernel_rfl) F143_ok
abbrev N144:Note:=⟨[],[(0,[0]),(1,[0,10]),(2,[2,3]),(3,[2,3])],[]⟩
def F144:DF:=pF N144 Tryz.f144
theorem F144_ok:prepF Tryz.prog N144 Tryz.f144=some F144:=by kernel_rfl
theorem F144_fn:FnOK2 Tryz.prog 144 (.pl F144):=.pl Tryz.func144 (by kernel_rfl) F144_ok
abbrev N145:Note:=⟨[],[(0,[0,1]),(1,[4])],[]⟩
def F145:DF:=pF N145 Tryz.f145
theorem F145_ok:prepF Tryz.prog N145 Tryz.f145=some F145:=by kernel_rfl
theorem F145_fn:FnOK2 Tryz.prog 145 (.pl F145):=.pl Tryz.func145 (by kernel_rfl) F145_ok
abbrev N146:Note:=⟨[],[(0,[0]),(1,[0,4]),(2,[0,4,10]),(3,[2,3]),(4,[0,4,5]),(5,[0,2,4,5]),(6,[0,2,4,5,18]),(7,[2,3]),(8,[0,4,5,6]),(9,[0,4,5,6]),(10,[0,4,5,6,27]),(11,[0,4,5,6]),(12,[0,4,5,6,33]),(13,[0,4,5,35]),(14,[0,4,5]),(15,[2,3,4,5]),(16,[2,3,48]),(17,[2,3]),(18,[2,3]),(1000000,[0,4,5,6])],[]⟩
def F146:DF:=pF N146 Tryz.f146
theorem F146_ok:prepF Tryz.prog N146 Tryz.f146=some F146:=by kernel_rfl
theorem F146_fn:FnOK2 Tryz.prog 146 (.pl F146):=.pl Tryz.func146 (by kernel_rfl) F146_ok
theorem F147_ok : prepF Tryz.prog ⟨[],[(0,[0,1]),(1,[4])],[]⟩ Tryz.f147 = some F147 := by kernel_rfl
theorem F147_fn:FnOK2 Tryz.prog 147 (.pl F147):=.pl Tryz.func147 (by kernel_rfl) F147_ok
abbrev N149:Note:=⟨[],[(0,[0]),(1,[2])],[]⟩
def F149:DF:=pF N149 Tryz.f149
theorem F149_ok:prepF Tryz.prog N149 Tryz.f149=some F149:=by kernel_rfl
theorem F149_fn:FnOK2 Tryz.prog 149 (.pl F149):=.pl Tryz.func149 (by kernel_rfl) F149_ok
abbrev N150:Note:=⟨[],[(0,[0,1]),(1,[0,1,5,6]),(2,[0,1,5,6,7]),(3,[0,1,5,6,7,8]),(4,[0,1,5,6,7,8,9]),(5,[0,1,5,6,7,8,9,20]),(6,[0,1,5,6,7,8,9]),(7,[0,1,5,6,7,8,9]),(8,[0,1,5,6,7,8,39]),(9,[4]),(10,[0,1,5,6,7,8,10]),(11,[0,1,5,6,7,8,10,44]),(12,[0,1,5,6,7,8,10]),(13,[0,1,5,6,7,8,10]),(14,[0,1,5,6,7,8,10]),(15,[0,1,5,6,7,8,10]),(16,[0,1,5,6,7,8,10,77]),(17,[4]),(18,[4]),(1000000,[0,1,5,6,7,8,9]),(1000002,[0,1,5,6,7,8,10])],[]⟩
def F150:DF:=pF N150 Tryz.f150
theorem F150_ok:prepF Tryz.prog N150 Tryz.f150=some F150:=by kernel_rfl
theorem F150_fn:FnOK2 Tryz.prog 150 (.pl F150):=.pl Tryz.func150 (by kernel_rfl) F150_ok
theorem F151_ok : prepF Tryz.prog ⟨[],[(0,[0,1]),(1,[4])],[]⟩ Tryz.f151 = some F151 := by kernel_rfl
theorem F151_fn:FnOK2 Tryz.prog 151 (.pl F151):=.pl Tryz.func151 (by kernel_rfl) F151_ok
theorem F152_ok : prepF Tryz.prog ⟨[],[(0,[0,1]),(1,[0,1,7]),(2,[4]),(3,[4])],[]⟩ Tryz.f152 = some F152 := by kernel_rfl
theorem F152_fn:FnOK2 Tryz.prog 152 (.pl F152):=.pl Tryz.func152 (by kernel_rfl) F152_ok
abbrev N153:Note:=⟨[],[(0,[0]),(1,[0,4]),(2,[0,30]),(3,[0,5]),(4,[0,5,39]),(5,[0,5]),(6,[0,5,44]),(7,[2,3]),(8,[0,5,6]),(9,[5,6,47,48,49]),(10,[5,6,47,48,49,50]),(11,[5,6,8,47,48,49]),(12,[5,6,8,47,48,49]),(13,[5,6,8,47,48,49,56]),(14,[2,3]),(15,[5,6,47,48,49]),(16,[5,6,47,48,49]),(17,[6,66]),(18,[6]),(19,[2,3]),(20,[9,10]),(21,[2,3]),(1000000,[5,6,47,48,49])],[]⟩
def F153:DF:=pF N153 Tryz.f153
theorem F153_ok:prepF Tryz.prog N153 Tryz.f153=some F153:=by kernel_rfl
theorem F153_fn:FnOK2 Tryz.prog 153 (.pl F153):=.pl Tryz.func153 (by kernel_rfl) F153_ok
abbrev N154:Note:=⟨[],[(0,[0,1,2,3,4]),(1,[0,1,2,3,4,11]),(2,[0,1,2,3,4,11,12]),(3,[10]),(4,[0,1,2,3,4,11,19]),(5,[10]),(6,[0,1,2,3,4,11,26]),(7,[10]),(8,[0,1,3,4,34]),(9,[10]),(10,[10])],[]⟩
def F154:DF:=pF N154 Tryz.f154
theorem F154_ok:prepF Tryz.prog N154 Tryz.f154=some F154:=by kernel_rfl
theorem F154_fn:FnOK2 Tryz.prog 154 (.pl F154):=.pl Tryz.func154 (by kernel_rfl) F154_ok
abbrev N155:Note:=⟨[],[(0,[0,1]),(1,[0,1,11]),(2,[0,17]),(3,[4]),(4,[0,5]),(5,[0,5,6]),(6,[0,5,6,23]),(7,[0,5,6]),(8,[0,5,6,7]),(9,[0,5,7]),(10,[5,7,34]),(11,[5,7]),(12,[4]),(13,[4]),(14,[9]),(15,[4])],[]⟩
def F155:DF:=pF N155 Tryz.f155
theorem F155_ok:prepF Tryz.prog N155 Tryz.f155=some F155:=by kernel_rfl
theorem F155_fn:FnOK2 Tryz.prog 155 (.pl F155):=.pl Tryz.func155 (by kernel_rfl) F155_ok
theorem F156_ok : prepF Tryz.prog ⟨[],[(0,[0,2,3,4,10]),(1,[0,2,4,10,11]),(2,[0,2,4,10,11,20]),(3,[0,2,4,10,11,23]),(4,[0,2,4,10,11]),(5,[0,2,4,10,11]),(6,[0,2,4,10,11]),(7,[0,2,4,10,11]),(8,[]),(1000000,[0,2,4,10,11])],[]⟩ Tryz.f156 = some F156 := by kernel_rfl
theorem F156_fn:FnOK2 Tryz.prog 156 (.pl F156):=.pl Tryz.func156 (by kernel_rfl) F156_ok
abbrev N157:Note:=⟨[],[(0,[0]),(1,[0,3]),(2,[2]),(3,[0,13]),(4,[2]),(5,[0,24]),(6,[2]),(7,[2])],[]⟩
def F157:DF:=pF N157 Tryz.f157
theorem F157_ok:prepF Tryz.prog N157 Tryz.f157=some F157:=by kernel_rfl
theorem F157_fn:FnOK2 Tryz.prog 157 (.pl F157):=.pl Tryz.func157 (by kernel_rfl) F157_ok
abbrev N158:Note:=⟨[9],[(0,[0]),(1,[0,4]),(2,[0,4,16]),(3,[2,3]),(4,[0,4,5]),(5,[0,4,5,6]),(6,[0,4,5,6,23]),(7,[0,7]),(8,[2,3]),(9,[0,4,5,6,8]),(10,[0,4,5,8,9]),(11,[0,5,8,9,45]),(12,[2,3]),(13,[0,5,8,9,10]),(14,[0,5,8,10,57]),(15,[2,3]),(16,[0,5,8,10,59]),(17,[2,3]),(18,[0,5,8,10,11]),(19,[0,5,8,10,11,75]),(20,[2,3]),(21,[0,5,10,11,77]),(22,[2,3]),(23,[5,10,11,12]),(24,[5,10,11,12,98]),(25,[2,3]),(26,[2,3])],[]⟩
def F158:DF:=pF N158 Tryz.f158
theorem F158_ok:prepF Tryz.prog N158 Tryz.f158=some F158:=by kernel_rfl
theorem F158_fn:FnOK2 Tryz.prog 158 (.pl F158):=.pl Tryz.func158 (by kernel_rfl) F158_ok
abbrev N159:Note:=⟨[],[(0,[0,1]),(1,[0,7]),(2,[0,7,8]),(3,[0,7,8,9]),(4,[0,7,8,9]),(5,[0,7,8,9,26]),(6,[0,7,8,9,33]),(7,[0,7,8,9,11]),(8,[0,7,8,9,11,43]),(9,[4]),(10,[0,7,8,9]),(11,[0,7,8,9,12]),(12,[0,7,8,9,12,51]),(13,[0,7,8,9,12]),(14,[0,7,8,9,12,64]),(15,[4]),(16,[0,7,8,9,10]),(17,[0,7,8,9,10]),(18,[0,7,8,9,98]),(19,[4]),(20,[8,9,13]),(21,[8,9,13,108]),(22,[4]),(23,[0,7,8,9,14]),(24,[0,7,8,9,14,15]),(25,[0,7,8,9,14,15,124]),(26,[0,7,8,9,14,15]),(27,[0,7,8,9,14,15,139]),(28,[0,7,8,9,14,15,16]),(29,[0,7,8,9,14,15,16,143]),(30,[0,7,8,9,14,15,16]),(31,[0,7,8,9,14,15,16,156]),(32,[4]),(33,[4]),(34,[0,1,160]),(35,[4]),(36,[0,1,171]),(37,[175]),(38,[175,176,177]),(39,[5,6,175]),(40,[5,175,181]),(41,[4]),(42,[4]),(43,[0,1,183]),(44,[4]),(1000001,[0,7,8,9]),(1000003,[0,7,8,9,12]),(1000005,[0,7,8,9,14,15]),(1000007,[0,7,8,9,14,15,16]),(1000009,[175])],[]⟩
def F159:DF:=pF N159 Tryz.f159
theorem F159_ok:prepF Tryz.prog N159 Tryz.f159=some F159:=by kernel_rfl
theorem F159_fn:FnOK2 Tryz.prog 159 (.pl F159):=.pl Tryz.func159 (by kernel_rfl) F159_ok
abbrev N160:Note:=⟨[],[(0,[0]),(1,[2])],[]⟩
def F160:DF:=pF N160 Tryz.f160
theorem F160_ok:prepF Tryz.prog N160 Tryz.f160=some F160:=by kernel_rfl
theorem F160_fn:FnOK2 Tryz.prog 160 (.pl F160):=.pl Tryz.func160 (by kernel_rfl) F160_ok
abbrev N162:Note:=⟨[],[(0,[0]),(1,[0,4]),(2,[0,4,5]),(3,[0,4,5,12]),(4,[0,4,5]),(5,[0,4,5]),(6,[0,4,6,7]),(7,[4,6,7,8]),(8,[4,6,7,8,25]),(9,[4,6,7,8]),(10,[4,6,7,8,30]),(11,[4,6,7,8]),(12,[4,6,7,8]),(13,[2,3]),(1000000,[0,4,5]),(1000002,[4,6,7,8])],[]⟩
def F162:DF:=pF N162 Tryz.f162
theorem F162_ok:prepF Tryz.prog N162 Tryz.f162=some F162:=by kernel_rfl
theorem F162_fn:FnOK2 Tryz.prog 162 (.pl F162):=.pl Tryz.func162 (by kernel_rfl) F162_ok
abbrev N163:Note:=⟨[],[(0,[0,1,2]),(1,[0,1,2,13]),(2,[6,7]),(3,[0,1,2,8]),(4,[0,1,2,8,16]),(5,[0,1,2,8,16,17]),(6,[0,1,2,8]),(7,[0,1,2,8,21]),(8,[0,1,2]),(9,[0,1,2,8]),(10,[0,1,2,8]),(11,[2,7,8,9]),(12,[2,7,8,9,38]),(13,[6,7]),(14,[2,8,9,41]),(15,[2,8,9]),(16,[8,9,10]),(17,[8,9,10,52]),(18,[6,7]),(19,[8,9,10,62]),(20,[6,7]),(21,[8,11]),(22,[11,69]),(23,[11]),(24,[6,7])],[]⟩
def F163:DF:=pF N163 Tryz.f163
theorem F163_ok:prepF Tryz.prog N163 Tryz.f163=some F163:=by kernel_rfl
theorem F163_fn:FnOK2 Tryz.prog 163 (.pl F163):=.pl Tryz.func163 (by kernel_rfl) F163_ok
abbrev N164:Note:=⟨[],[(0,[0,1]),(1,[4])],[]⟩
def F164:DF:=pF N164 Tryz.f164
theorem F164_ok:prepF Tryz.prog N164 Tryz.f164=some F164:=by kernel_rfl
theorem F164_fn:FnOK2 Tryz.prog 164 (.pl F164):=.pl Tryz.func164 (by kernel_rfl) F164_ok
abbrev N165:Note:=⟨[],[(0,[0,1]),(1,[4])],[]⟩
def F165:DF:=pF N165 Tryz.f165
theorem F165_ok:prepF Tryz.prog N165 Tryz.f165=some F165:=by kernel_rfl
theorem F165_fn:FnOK2 Tryz.prog 165 (.pl F165):=.pl Tryz.func165 (by kernel_rfl) F165_ok
abbrev N166:Note:=⟨[],[(0,[0,1,2]),(1,[6])],[]⟩
def F166:DF:=pF N166 Tryz.f166
theorem F166_ok:prepF Tryz.prog N166 Tryz.f166=some F166:=by kernel_rfl
theorem F166_fn:FnOK2 Tryz.prog 166 (.pl F166):=.pl Tryz.func166 (by kernel_rfl) F166_ok
abbrev N167:Note:=⟨[],[(0,[0,1,2]),(1,[6])],[]⟩
def F167:DF:=pF N167 Tryz.f167
theorem F167_ok:prepF Tryz.prog N167 Tryz.f167=some F167:=by kernel_rfl
theorem F167_fn:FnOK2 Tryz.prog 167 (.pl F167):=.pl Tryz.func167 (by kernel_rfl) F167_ok
abbrev N168:Note:=⟨[],[(0,[0]),(1,[0,4]),(2,[2]),(3,[2])],[]⟩
def F168:DF:=pF N168 Tryz.f168
theorem F168_ok:prepF Tryz.prog N168 Tryz.f168=some F168:=by kernel_rfl
theorem F168_fn:FnOK2 Tryz.prog 168 (.pl F168):=.pl Tryz.func168 (by kernel_rfl) F168_ok
abbrev N169:Note:=⟨[],[(0,[0]),(1,[0,3]),(2,[2])],[]⟩
def F169:DF:=pF N169 Tryz.f169
theorem F169_ok:prepF Tryz.prog N169 Tryz.f169=some F169:=by kernel_rfl
theorem F169_fn:FnOK2 Tryz.prog 169 (.pl F169):=.pl Tryz.func169 (by kernel_rfl) F169_ok
abbrev N170:Note:=⟨[],[(0,[0,1,4]),(1,[0,1,4,20]),(2,[0,1,4,5]),(3,[0,1,4,5]),(4,[0,1,4,6,7]),(5,[0,1,4,6,8,9]),(6,[0,1,4,8,9,10,11]),(7,[0,1,4,8,10,11]),(8,[0,1,4,10,11]),(9,[0,1,4,10]),(10,[0,1,4]),(11,[0,1,4]),(12,[0,4,12]),(13,[0,4,12,99]),(14,[0,4,12,13]),(15,[0,4,12,13]),(16,[0,4,12,14,15]),(17,[0,4,12,14]),(18,[0,4,12]),(19,[0,4,12]),(20,[0,4,12,139]),(21,[0,4,12,16]),(22,[0,4,12,16]),(23,[0,4,12]),(24,[0,4,12]),(25,[0,12,161]),(26,[]),(1000000,[0,1,4])],[]⟩
def F170:DF:=pF N170 Tryz.f170
theorem F170_ok:prepF Tryz.prog N170 Tryz.f170=some F170:=by kernel_rfl
theorem F170_fn:FnOK2 Tryz.prog 170 (.pl F170):=.pl Tryz.func170 (by kernel_rfl) F170_ok
abbrev N171:Note:=⟨[],[(0,[0,1,2,3,4,10,11]),(1,[0,1,2,3,4,10,11,28]),(2,[0,1,2,3,4,10,11]),(3,[0,1,2,3,4,10,11,12]),(4,[0,1,2,3,4,10,11,12,13]),(5,[0,1,2,3,4,10,11,12,13,30]),(6,[0,1,2,3,4,10,11,12,13]),(7,[0,1,2,3,4,10,11,12,13,34]),(8,[0,1,2,3,4,10,11,12,13,14]),(9,[0,1,2,3,4,10,11,12,13,14,15]),(10,[0,1,3,4,10,11,12,13,14,15,16]),(11,[0,1,3,4,10,11,12,13,14,15,16,46]),(12,[0,1,3,4,10,11,12,13,14,15,16]),(13,[0,1,3,4,10,11,12,13,14,15,16]),(14,[0,1,3,4,10,11,12,13,14,15,16]),(15,[0,1,3,4,10,11,12,13]),(16,[0,3,4,10,11,12,13]),(17,[0,1,3,4,10,11,12,13,17]),(18,[0,1,3,4,10,11,12,13,17,68]),(19,[0,1,3,4,10,11,12,13,17]),(20,[0,1,3,4,10,11,12,13,17,18]),(21,[0,3,4,10,11,12,13,17,18]),(22,[0,1,3,4,10,11,12,13,17]),(23,[0,1,3,4,10,11,12,13]),(24,[0,3,4,10,11,12,13]),(25,[0,4,10,11,12,13,89]),(26,[0,4,10,11,12,13]),(27,[0,4,10,11,12,13]),(28,[0,10,11,12,13,94]),(29,[10,11]),(30,[10,11]),(1000000,[0,1,3,4,10,11,12,13,14,15,16]),(1000002,[0,1,3,4,10,11,12,13,17])],[]⟩
def F171:DF:=pF N171 Tryz.f171
theorem F171_ok:prepF Tryz.prog N171 Tryz.f171=some F171:=by kernel_rfl
theorem F171_fn:FnOK2 Tryz.prog 171 (.pl F171):=.pl Tryz.func171 (by kernel_rfl) F171_ok
theorem F172_ok : prepF Tryz.prog ⟨[],[(0,[0,1,2,3,10]),(1,[0,1,2,3,10,13]),(2,[0,1,2,3,10]),(3,[0,1,2,3,10]),(1000000,[0,1,2,3,10])],[]⟩ Tryz.f172 = some F172 := by kernel_rfl
theorem F172_fn:FnOK2 Tryz.prog 172 (.pl F172):=.pl Tryz.func172 (by kernel_rfl) F172_ok
abbrev N173:Note:=⟨[],[(0,[0,1]),(1,[4])],[]⟩
def F173:DF:=pF N173 Tryz.f173
theorem F173_ok:prepF Tryz.prog N173 Tryz.f173=some F173:=by kernel_rfl
theorem F173_fn:FnOK2 Tryz.prog 173 (.pl F173):=.pl Tryz.func173 (by kernel_rfl) F173_ok
abbrev N174:Note:=⟨[],[(0,[0]),(1,[0,3]),(2,[2]),(3,[10]),(4,[2]),(5,[2])],[]⟩
def F174:DF:=pF N174 Tryz.f174
theorem F174_ok:prepF Tryz.prog N174 Tryz.f174=some F174:=by kernel_rfl
theorem F174_fn:FnOK2 Tryz.prog 174 (.pl F174):=.pl Tryz.func174 (by kernel_rfl) F174_ok
abbrev N175:Note:=⟨[],[(0,[0,1,2]),(1,[0,1,2,19]),(2,[6,7]),(3,[0,1,2,8]),(4,[0,1,2,8,9]),(5,[6,7]),(6,[0,1,2,8,9,25]),(7,[0,2,8,9,32]),(8,[0,1,2,8,9]),(9,[0,1,2,8,9,37]),(10,[0,1,2,8,9]),(11,[0,1,2,8,9]),(12,[0,2,8,9,40]),(13,[0,1,2,8,9]),(14,[0,1,2,8,9]),(15,[0,2,8,9,52]),(16,[0,1,2,8,9]),(17,[0,1,2,8,9]),(18,[0,2,8,9,64]),(19,[0,1,2,8,9]),(20,[0,1,2,8,9]),(21,[0,1,2,8,9,77]),(22,[0,1,2,8,9]),(23,[0,1,2,8,9,83]),(24,[6,7]),(25,[0,1,2,8,9]),(26,[0,1,2,8,9,85]),(27,[0,1,2,8,9,10]),(28,[0,1,2,8,9,85,90]),(29,[0,1,2,8,9,10]),(30,[0,1,2,8,9,92]),(31,[0,1,2,8,9,10]),(32,[0,1,8,9,10,11]),(33,[0,1,8,9,10,11,12]),(34,[0,1,8,9,10,11,12,13]),(35,[1,8,9,10,11,12,13,99,100,101]),(36,[1,8,9,10,11,12,13,99,100,101,102]),(37,[1,8,9,10,11,12,13,15,99,100,101]),(38,[1,8,9,10,11,12,13,15,99,100,101]),(39,[6,7]),(40,[1,8,9,10,11,12,13,15,99,100,101,106]),(41,[1,8,9,10,11,12,13,99,100,101]),(42,[1,8,9,10,11,12,13,15,99,100,101,112]),(43,[1,8,9,10,11,12,13,16,99,100,101]),(44,[1,8,9,10,11,12,13,15,99,100,101,121]),(45,[1,8,9,10,11,12,13,16,99,100,101]),(46,[1,8,9,10,11,12,13,16,99,100,101,137]),(47,[6,7]),(48,[1,8,9,10,11,12,13,16,99,100,101,141]),(49,[6,7]),(50,[1,8,9,10,11,12,13,16,99,100,101]),(51,[1,8,9,10,11,12,13,17,99,100,101]),(52,[1,8,9,10,11,12,17,99,100,101,159]),(53,[6,7]),(54,[1,8,9,10,11,12,13,99,100,101]),(55,[1,8,9,10,11,12,13,99,100,101]),(56,[13,169]),(57,[6,7]),(58,[6,7]),(1000003,[1,8,9,10,11,12,13,99,100,101])],[]⟩
def F175:DF:=pF N175 Tryz.f175
theorem F175_ok:prepF Tryz.prog N175 Tryz.f175=some F175:=by kernel_rfl
theorem F175_fn:FnOK2 Tryz.prog 175 (.pl F175):=.pl Tryz.func175 (by kernel_rfl) F175_ok
abbrev N176:Note:=⟨[],[(0,[0]),(1,[0,6]),(2,[2]),(3,[0,3]),(4,[3]),(5,[2])],[]⟩
def F176:DF:=pF N176 Tryz.f176
theorem F176_ok:prepF Tryz.prog N176 Tryz.f176=some F176:=by kernel_rfl
theorem F176_fn:FnOK2 Tryz.prog 176 (.pl F176):=.pl Tryz.func176 (by kernel_rfl) F176_ok
abbrev N177:Note:=⟨[],[(0,[0]),(1,[2])],[]⟩
def F177:DF:=pF N177 Tryz.f177
theorem F177_ok:prepF Tryz.prog N177 Tryz.f177=some F177:=by kernel_rfl
theorem F177_fn:FnOK2 Tryz.prog 177 (.pl F177):=.pl Tryz.func177 (by kernel_rfl) F177_ok
abbrev N178:Note:=⟨[],[(0,[0]),(1,[2])],[]⟩
def F178:DF:=pF N178 Tryz.f178
theorem F178_ok:prepF Tryz.prog N178 Tryz.f178=some F178:=by kernel_rfl
theorem F178_fn:FnOK2 Tryz.prog 178 (.pl F178):=.pl Tryz.func178 (by kernel_rfl) F178_ok
abbrev N179:Note:=⟨[],[(0,[0,2]),(1,[0,2,4]),(2,[0]),(3,[0,2]),(4,[0,2,8]),(5,[0,2]),(6,[0,2]),(7,[0,2,14]),(8,[0,2]),(9,[0,2]),(10,[2])],[]⟩
def F179:DF:=pF N179 Tryz.f179
theorem F179_ok:prepF Tryz.prog N179 Tryz.f179=some F179:=by kernel_rfl
theorem F179_fn:FnOK2 Tryz.prog 179 (.pl F179):=.pl Tryz.func179 (by kernel_rfl) F179_ok
abbrev N180:Note:=⟨[],[(0,[0]),(1,[3]),(2,[2]),(3,[2])],[]⟩
def F180:DF:=pF N180 Tryz.f180
theorem F180_ok:prepF Tryz.prog N180 Tryz.f180=some F180:=by kernel_rfl
theorem F180_fn:FnOK2 Tryz.prog 180 (.pl F180):=.pl Tryz.func180 (by kernel_rfl) F180_ok
abbrev N181:Note:=⟨[],[(0,[0]),(1,[2])],[]⟩
def F181:DF:=pF N181 Tryz.f181
theorem F181_ok:prepF Tryz.prog N181 Tryz.f181=some F181:=by kernel_rfl
theorem F181_fn:FnOK2 Tryz.prog 181 (.pl F181):=.pl Tryz.func181 (by kernel_rfl) F181_ok
abbrev N182:Note:=⟨[],[(0,[0]),(1,[2]),(2,[2])],[]⟩
def F182:DF:=pF N182 Tryz.f182
theorem F182_ok:prepF Tryz.prog N182 Tryz.f182=some F182:=by kernel_rfl
theorem F182_fn:FnOK2 Tryz.prog 182 (.pl F182):=.pl Tryz.func182 (by kernel_rfl) F182_ok
abbrev N183:Note:=⟨[],[(0,[0]),(1,[2])],[]⟩
def F183:DF:=pF N183 Tryz.f183
theorem F183_ok:prepF Tryz.prog N183 Tryz.f183=some F183:=by kernel_rfl
theorem F183_fn:FnOK2 Tryz.prog 183 (.pl F183):=.pl Tryz.func183 (by kernel_rfl) F183_ok
abbrev N184:Note:=⟨[],[(0,[0]),(1,[0,3]),(2,[0,3,4]),(3,[0,3,4,18]),(4,[0,3,4]),(5,[0,3,4,5]),(6,[0,3,4,5,46]),(7,[0,4]),(8,[0,3,4]),(9,[0,3,4,5]),(10,[0,3,4,5,54]),(11,[0,3,4,5]),(12,[0,3,4,5,83]),(13,[0,3,4,5]),(14,[0,3,4,5,87]),(15,[0,4,5,89]),(16,[2]),(17,[0,3,4,5]),(18,[0,4,5,91]),(19,[2]),(20,[0,3,4,5]),(21,[2]),(1000000,[0,3,4,5])],[]⟩
def F184:DF:=pF N184 Tryz.f184
theorem F184_ok:prepF Tryz.prog N184 Tryz.f184=some F184:=by kernel_rfl
theorem F184_fn:FnOK2 Tryz.prog 184 (.pl F184):=.pl Tryz.func184 (by kernel_rfl) F184_ok
abbrev N185:Note:=⟨[],[(0,[0]),(1,[0,4]),(2,[2]),(3,[2])],[]⟩
def F185:DF:=pF N185 Tryz.f185
theorem F185_ok:prepF Tryz.prog N185 Tryz.f185=some F185:=by kernel_rfl
theorem F185_fn:FnOK2 Tryz.prog 185 (.pl F185):=.pl Tryz.func185 (by kernel_rfl) F185_ok
abbrev N186:Note:=⟨[],[(0,[0]),(1,[0,4]),(2,[2]),(3,[2])],[]⟩
def F186:DF:=pF N186 Tryz.f186
theorem F186_ok:prepF Tryz.prog N186 Tryz.f186=some F186:=by kernel_rfl
theorem F186_fn:FnOK2 Tryz.prog 186 (.pl F186):=.pl Tryz.func186 (by kernel_rfl) F186_ok
noncomputable def tab : List (Nat × DX) := [(3,.pl F3),(4,.pl F4),(11,.pl F11),(12,.pl F12),(13,.pl F13),(14,.pl F14),(15,.pl F15),(16,.pl F16),(17,.pl F17),(18,.pl F18),(19,.pl F19),(20,.pl F20),(21,.pl F21),(22,.pl F22),(27,.pl F27),(28,.pl F28),(29,.pl F29),(30,.pl F30),(31,.pl F31),(32,.pl F32),(33,.pl F33),(34,.pl F34),(35,.pl F35),(37,.df F37),(38,.pl F38),(39,.pl F39),(40,.pl F40),(41,.pl F41),(42,.pl F42),(43,.pl F43),(44,.pl F44),(45,.pl F45),(46,.pl F46),(47,.pl F47),(48,.pl F48),(49,.pl F49),(50,.pl F50),(52,.pl F52),(53,.pl F53),(54,.rc F54),(55,.pl F55),(56,.pl F56),(57,.pl F57),(58,.pl F58),(59,.pl F59),(60,.pl F60),(61,.pl F61),(62,.pl F62),(63,.pl F63),(64,.pl F64),(65,.pl F65),(66,.pl F66),(67,.pl F67),(68,.pl F68),(69,.pl F69),(70,.pl F70),(71,.pl F71),(72,.pl F72),(73,.pl F73),(74,.pl F74),(75,.pl F75),(78,.pl F78),(79,.pl F79),(80,.pl F80),(81,.pl F81),(82,.pl F82),(83,.pl F83),(84,.pl F84),(85,.pl F85),(86,.pl F86),(87,.pl F87),(88,.pl F88),(89,.pl F89),(90,.pl F90),(91,.pl F91),(92,.pl F92),(93,.pl F93),(94,.pl F94),(95,.pl F95),(96,.pl F96),(97,.pl F97),(99,.pl F99),(100,.pl F100),(101,.pl F101),(102,.pl F102),(103,.pl F103),(104,.pl F104),(105,.pl F105),(106,.pl F106),(107,.pl F107),(108,.pl F108),(109,.pl F109),(110,.pl F110),(111,.pl F111),(112,.pl F112),(113,.pl F113),(114,.pl F114),(115,.pl F115),(116,.pl F116),(117,.pl F117),(118,.pl F118),(119,.pl F119),(120,.pl F120),(121,.pl F121),(122,.pl F122),(123,.pl F123),(124,.pl F124),(125,.pl F125),(126,.pl F126),(127,.pl F127),(128,.pl F128),(129,.pl F129),(130,.pl F130),(131,.pl F131),(132,.pl F132),(133,.pl F133),(134,.pl F134),(135,.pl F135),(136,.pl F136),(137,.pl F137),(138,.pl F138),(140,.pl F140),(141,.pl F141),(142,.pl F142),(143,.pl F143),(144,.pl F144),(145,.pl F145),(146,.pl F146),(147,.pl F147),(149,.pl F149),(150,.pl F150),(151,.pl F151),(152,.pl F152),(153,.pl F153),(154,.pl F154),(155,.pl F155),(156,.pl F156),(157,.pl F157),(158,.pl F158),(159,.pl F159),(160,.pl F160),(162,.pl F162),(163,.pl F163),(164,.pl F164),(165,.pl F165),(166,.pl F166),(167,.pl F167),(168,.pl F168),(169,.pl F169),(170,.pl F170),(171,.pl F171),(172,.pl F172),(173,.pl F173),(174,.pl F174),(175,.pl F175),(176,.pl F176),(177,.pl F177),(178,.pl F178),(179,.pl F179),(180,.pl F180),(181,.pl F181),(182,.pl F182),(183,.pl F183),(184,.pl F184),(185,.pl F185),(186,.pl F186)]
theorem tabOK : TabOK2 Tryz.prog tab :=
 .cons F3_fn <|
 .cons F4_fn <|
 .cons F11_fn <|
 .cons F12_fn <|
 .cons F13_fn <|
 .cons F14_fn <|
 .cons F15_fn <|
 .cons F16_fn <|
 .cons F17_fn <|
 .cons F18_fn <|
 .cons F19_fn <|
 .cons F20_fn <|
 .cons F21_fn <|
 .cons F22_fn <|
 .cons F27_fn <|
 .cons F28_fn <|
 .cons F29_fn <|
 .cons F30_fn <|
 .cons F31_fn <|
 .cons F32_fn <|
 .cons F33_fn <|
 .cons F34_fn <|
 .cons F35_fn <|
 .cons F37_fn <|
 .cons F38_fn <|
 .cons F39_fn <|
 .cons F40_fn <|
 .cons F41_fn <|
 .cons F42_fn <|
 .cons F43_fn <|
 .cons F44_fn <|
 .cons F45_fn <|
 .cons F46_fn <|
 .cons F47_fn <|
 .cons F48_fn <|
 .cons F49_fn <|
 .cons F50_fn <|
 .cons F52_fn <|
 .cons F53_fn <|
 .cons F54_fn <|
 .cons F55_fn <|
 .cons F56_fn <|
 .cons F57_fn <|
 .cons F58_fn <|
 .cons F59_fn <|
 .cons F60_fn <|
 .cons F61_fn <|
 .cons F62_fn <|
 .cons F63_fn <|
 .cons F64_fn <|
 .cons F65_fn <|
 .cons F66_fn <|
 .cons F67_fn <|
 .cons F68_fn <|
 .cons F69_fn <|
 .cons F70_fn <|
 .cons F71_fn <|
 .cons F72_fn <|
 .cons F73_fn <|
 .cons F74_fn <|
 .cons F75_fn <|
 .cons F78_fn <|
 .cons F79_fn <|
 .cons F80_fn <|
 .cons F81_fn <|
 .cons F82_fn <|
 .cons F83_fn <|
 .cons F84_fn <|
 .cons F85_fn <|
 .cons F86_fn <|
 .cons F87_fn <|
 .cons F88_fn <|
 .cons F89_fn <|
 .cons F90_fn <|
 .cons F91_fn <|
 .cons F92_fn <|
 .cons F93_fn <|
 .cons F94_fn <|
 .cons F95_fn <|
 .cons F96_fn <|
 .cons F97_fn <|
 .cons F99_fn <|
 .cons F100_fn <|
 .cons F101_fn <|
 .cons F102_fn <|
 .cons F103_fn <|
 .cons F104_fn <|
 .cons F105_fn <|
 .cons F106_fn <|
 .cons F107_fn <|
 .cons F108_fn <|
 .cons F109_fn <|
 .cons F110_fn <|
 .cons F111_fn <|
 .cons F112_fn <|
 .cons F113_fn <|
 .cons F114_fn <|
 .cons F115_fn <|
 .cons F116_fn <|
 .cons F117_fn <|
 .cons F118_fn <|
 .cons F119_fn <|
 .cons F120_fn <|
 .cons F121_fn <|
 .cons F122_fn <|
 .cons F123_fn <|
 .cons F124_fn <|
 .cons F125_fn <|
 .cons F126_fn <|
 .cons F127_fn <|
 .cons F128_fn <|
 .cons F129_fn <|
 .cons F130_fn <|
 .cons F131_fn <|
 .cons F132_fn <|
 .cons F133_fn <|
 .cons F134_fn <|
 .cons F135_fn <|
 .cons F136_fn <|
 .cons F137_fn <|
 .cons F138_fn <|
 .cons F140_fn <|
 .cons F141_fn <|
 .cons F142_fn <|
 .cons F143_fn <|
 .cons F144_fn <|
 .cons F145_fn <|
 .cons F146_fn <|
 .cons F147_fn <|
 .cons F149_fn <|
 .cons F150_fn <|
 .cons F151_fn <|
 .cons F152_fn <|
 .cons F153_fn <|
 .cons F154_fn <|
 .cons F155_fn <|
 .cons F156_fn <|
 .cons F157_fn <|
 .cons F158_fn <|
 .cons F159_fn <|
 .cons F160_fn <|
 .cons F162_fn <|
 .cons F163_fn <|
 .cons F164_fn <|
 .cons F165_fn <|
 .cons F166_fn <|
 .cons F167_fn <|
 .cons F168_fn <|
 .cons F169_fn <|
 .cons F170_fn <|
 .cons F171_fn <|
 .cons F172_fn <|
 .cons F173_fn <|
 .cons F174_fn <|
 .cons F175_fn <|
 .cons F176_fn <|
 .cons F177_fn <|
 .cons F178_fn <|
 .cons F179_fn <|
 .cons F180_fn <|
 .cons F181_fn <|
 .cons F182_fn <|
 .cons F183_fn <|
 .cons F184_fn <|
 .cons F185_fn <|
 .cons F186_fn <|
  .nil
end
end Go.Proofs.C1

namespace Go.Proofs.YtbojekglccdajaaGreatDoor
open Go.ChangeShapes Go.WideShapes Go.ChangeAt Go.RowKit
abbrev laid:List (String×DataW Unit):=Rows.alignTellsUptoRow.laid
theorem own:ownKnob Tryz.prog.godebug=none:=by kernel_rfl
abbrev pows:List Int:=[1,10,100,1000,10000,100000,1000000,10000000,100000000,1000000000,10000000000,100000000000,1000000000000,10000000000000,100000000000000,1000000000000000,10000000000000000,100000000000000000,1000000000000000000,10000000000000000000]
abbrev powsA:List Dn.AV:=[.int .u64 1,.int .u64 10,.int .u64 100,.int .u64 1000,.int .u64 10000,.int .u64 100000,.int .u64 1000000,.int .u64 10000000,.int .u64 100000000,.int .u64 1000000000,.int .u64 10000000000,.int .u64 100000000000,.int .u64 1000000000000,.int .u64 10000000000000,.int .u64 100000000000000,.int .u64 1000000000000000,.int .u64 10000000000000000,.int .u64 100000000000000000,.int .u64 1000000000000000000,.int .u64 10000000000000000000]
theorem powsA_eq:powsA=pows.map (Dn.AV.int .u64):=rfl
abbrev gtT:Dn.GT:=[(5,powsA)]
theorem globPow : Tryz.prog.globalNamed "internal/strconv.uint64pow10" = some 5 := by kernel_rfl
theorem typePow:(Tryz.prog.globals[5]?).map (·.type)=some 202:=by kernel_rfl
theorem undPow:Tryz.prog.underlying 202=some (.array 20 166):=by kernel_rfl
theorem undU64:Tryz.prog.underlying 166=some (.int .u64):=by kernel_rfl
theorem pow_of_laid {W : World} (h : laidMetH Tryz.prog laid W) : Lib.TabIs Tryz.prog W "internal/strconv.uint64pow10" .u64 pows := by
 rw[MakeChecks.laidMetH_plain _ _ _ (by kernel_rfl)]at h;exact Lib.tabIs_of_head globPow typePow undPow undU64 (by kernel_rfl) (by kernel_rfl) (laidMet.tail (laidMet.tail h))
theorem inv_of_laid {W:World}(h:laidMetH Tryz.prog laid W):Dn.Inv Tryz.prog gtT Dn.St.init (Dn.G0 W) W:=by
 refine Dn.inv0g λg cs hg=>?_;rw[Dn.lk_cons]at hg;by_cases e:5=g
 ·rw[if_pos e]at hg;subst e;cases hg;have hv:=pow_of_laid h;simp only[Lib.TabIs,World.var?,globPow,Option.bind_some]at hv;split at hv
  ·rename_i c ty fr hw;cases hv;refine⟨_,ty,fr,hw,?_⟩;rw[powsA_eq];generalize pows=l
   induction l with
   | nil=>exact Dn.Rl.nil
   | cons a r ih=>exact Dn.Rl.cons (by simp only[Dn.Rv]) ih
  ·cases hv
 ·rw[if_neg e]at hg;cases hg
noncomputable abbrev laidW (os:Os):World:=World.laidAll Tryz.prog os laid
theorem laidW_os (os:Os):(laidW os).os=os:=World.laidAll_os _ _ _
theorem laidW_met (os:Os)(args:Array Value):laidMetH Tryz.prog laid ((laidW os).forCall (λ_ _=>0) ⟨#[],args,[]⟩).memory:=by
 rw[MakeChecks.laidMetH_plain _ _ _ (by kernel_rfl)];exact laidMet_laidAll _ (by kernel_rfl) (by kernel_rfl)
set_option maxRecDepth 1000000 in
theorem ran:Dn.exec2 gtT (λf=>Dn.lk [] f) (λf=>Dn.lk C1.tab f) 100000 200 3 [] Dn.St.init Dn.retTrue=true:=by kernel_rfl
end Go.Proofs.YtbojekglccdajaaGreatDoor

namespace Go.Proofs.YtbojekglccdajaaGreatDoor
open Go.Dn Go.RowKit
theorem rv_str {S:St}{G:Gh}{w:World}{s:List UInt8}:Rv S G w (.str s) (.string ⟨s.toArray⟩):=by simp only[Rv]
theorem hbTL:HasBody Tryz.prog 111:=⟨_,Tryz.func111,by kernel_rfl,by kernel_rfl⟩
theorem hbTR:HasBody Tryz.prog 112:=⟨_,Tryz.func112,by kernel_rfl,by kernel_rfl⟩
theorem hbTT:HasBody Tryz.prog 106:=⟨_,Tryz.func106,by kernel_rfl,by kernel_rfl⟩
theorem hbAI:HasBody Tryz.prog 134:=⟨_,Tryz.func134,by kernel_rfl,by kernel_rfl⟩
theorem hbIA:HasBody Tryz.prog 114:=⟨_,Tryz.func114,by kernel_rfl,by kernel_rfl⟩
theorem sh_trimL {cs:List UInt8}(hc:cs.length<4294967281)(ha:∀b∈cs,b.toNat<128)(s:List UInt8):PF (AC Tryz.prog gtT) 111 [.str s,.str cs] (.str (trimL cs s)) :=
 PF.of_calls hbTL (λS G w vs h=>rl_str2 h) (λS G w=>rv_str) λw =>
  Any.strings_TrimLeft_laid Tryz.lays161 (by kernel_rfl) ⟨s.toArray⟩ ⟨cs.toArray⟩ w hc λj b h=>ha b (List.mem_of_getElem? h)
theorem sh_trimR {cs:List UInt8}(hc:cs.length<4294967281)(ha:∀b∈cs,b.toNat<128)(s:List UInt8)(hs:s.length<9223372036854775807):PF (AC Tryz.prog gtT) 112 [.str s,.str cs] (.str (trimR cs s)) :=
 PF.of_calls hbTR (λS G w vs h=>rl_str2 h) (λS G w=>rv_str) λw =>
  Any.strings_TrimRight_laid Tryz.lays162 (by kernel_rfl) ⟨s.toArray⟩ ⟨cs.toArray⟩ w (Nat.le_of_lt hs) hc λj b h=>ha b (List.mem_of_getElem? h)
theorem sh_trim {cs:List UInt8}(hc:cs.length<4294967281)(ha:∀b∈cs,b.toNat<128)(s:List UInt8)(hs:s.length<9223372036854775807):PF (AC Tryz.prog gtT) 106 [.str s,.str cs] (.str (trimA cs s)) :=
 PF.of_calls hbTT (λS G w vs h=>rl_str2 h) (λS G w=>rv_str) λw =>
  Any.strings_Trim_laid Tryz.lays160 (by kernel_rfl) ⟨s.toArray⟩ ⟨cs.toArray⟩ w (Nat.le_of_lt hs) hc λj b h=>ha b (List.mem_of_getElem? h)
theorem decFrom_val (l:List UInt8):∀(a:Nat),l.all dig=true->Lib.decFrom a l=some (valB a l):=by
 induction l with
 | nil=>intro a _;rfl
 | cons b r ih =>
  intro a h;rw[List.all_cons,bA]at h;have hb:=h.1;simp only[dig,bA,decide_eq_true_eq]at hb;have hd:Lib.digitVal b=some (b.toNat-48):=if_pos hb;unfold Lib.decFrom;rw[hd];exact ih _ h.2
theorem atoi_val (l:List UInt8)(h:l.all dig=true)(h1:1<=l.length):Lib.atoi l=some (valB 0 l:Int):=by
 cases l with
 | nil=>simp at h1
 | cons b r =>
  have hb:=h;simp only[List.all_cons,bA,dig,decide_eq_true_eq]at hb;have n1:(b == 45)=false:=by
   cases hh:(b == 45) with
   | false=>rfl
   | true=>rw[beq_iff_eq]at hh;subst hh;exact absurd hb.1.1 (by decide)
  have n2:(b == 43)=false:=by
   cases hh:(b == 43) with
   | false=>rfl
   | true=>rw[beq_iff_eq]at hh;subst hh;exact absurd hb.1.1 (by decide)
  simp only[Lib.atoi,n1,n2,Bool.false_eq_true,if_false,Lib.decNat,List.isEmpty_cons];rw[decFrom_val _ 0 h];rfl
theorem sh_atoi (s:List UInt8)(h:s.all dig=true)(h1:1<=s.length)(h2:s.length<=18):PF (AC Tryz.prog gtT) 134 [.str s] (.tup [.int .i64 (valB 0 s),.nilif]) :=
 PF.of_calls hbAI (λS G w vs h=>rl_str1 h) (v:=.tuple #[.int .i64 (valB 0 s),.nilIface]) (λS G w=>by
   simp only[Rv];exact⟨_,rfl,Rl.cons (by simp only[Rv]) (Rl.cons (by simp only[Rv]) Rl.nil)⟩) λw =>
  (Any.strconv_Atoi Tryz.lays172 ⟨s.toArray⟩ (valB 0 s) h2 (atoi_val s h h1) w).mono λe w' ⟨h1,t,h2⟩=>⟨h1,by rw[h2];exact Joins.below_bytesWorld _ _ _ _ (nR _)⟩
theorem decB_dec:∀n:Nat,Lib.decDigits n=decB n:=λn=>by
 induction n using Nat.strongRecOn with
 | _ n ih =>
  unfold Lib.decDigits decB;split
  ·rfl
  ·rw[ih (n / 10) (by omega)]
theorem itoa_eq (n:Int):Lib.itoa n=itoaB n:=by unfold Lib.itoa itoaB;rw[decB_dec,decB_dec]
theorem pows_tab:Lib.pow10Tab=pows:=by decide
theorem tab_of_inv {S : St} {G : Gh} {w : World} (hI : Inv Tryz.prog gtT S G w) : Lib.TabIs Tryz.prog w "internal/strconv.uint64pow10" .u64 Lib.pow10Tab := by
 rw[pows_tab];obtain⟨_,c,ty,fr,h1,h2⟩:=hI.glob 5 powsA rfl;have:c=(pows.map λz=>Value.int .u64 z).toArray:=by
  rw[powsA_eq]at h2;obtain⟨c⟩:=c;simp only at h2
  congr 1
  clear h1
  revert h2
  generalize pows=l
  induction l generalizing c with
  | nil=>intro h2;simpa only[List.map_nil,Rl] using h2
  | cons a r ih =>
   intro h2;simp only[List.map_cons,Rl,Rv]at h2;obtain⟨v,q,rfl,rfl,h3⟩:=h2;rw[List.map_cons,ih q h3]
 rw[this]at h1;simp only[Lib.TabIs,World.var?,globPow,Option.bind_some,h1]
theorem rl_int1 {S:St}{G:Gh}{w:World}{k:IntKind}{n:Int}{vs:List Value}(h:Rl S G w [.int k n] vs):vs=[.int k n]:=by
 simp only[Rl,Rv]at h;obtain⟨v,r,rfl,rfl,rfl⟩:=h;rfl
theorem sh_itoa (n:Int)(h1:-999999<=n)(h2:n<=999999):PF (AC Tryz.prog gtT) 114 [.int .i64 n] (.str (itoaB n)) :=
 PF.of_callsI hbIA (λS G w vs h=>rl_int1 h) (v:=.string ⟨(Lib.itoa n).toArray⟩) (λS G w=>by rw[itoa_eq];exact rv_str) λS G w hI =>
  (Any.strconv_Itoa Tryz.lays171M n (by omega) (by omega) w (tab_of_inv hI)).mono λe w' ⟨h1,k,os,h2⟩=>⟨h1,by rw[h2];exact Lib.below_grow _ _ (nR _) _ _⟩
end Go.Proofs.YtbojekglccdajaaGreatDoor

namespace Go.Proofs.YtbojekglccdajaaGreatDoor.Fn
open Go.ChangeShapes Go.WideShapes Go.ChangeAt Go.RowKit Go.Dn
abbrev A:CallT:=AC Tryz.prog gtT
theorem hm:MonoC A:=AC_mono
theorem gtSta:GtSta gtT:=λg cs h=>by
 rw[lk_cons]at h;by_cases e:5=g
 ·rw[if_pos e]at h;cases h;rw[powsA_eq];generalize pows=l
  induction l with
  | nil=>exact trivial
  | cons a r ih=>exact⟨trivial,ih⟩
 ·rw[if_neg e]at h;cases h
theorem pf {f : FuncId} {fn : Func} {n : Note} {F : DF} {us : List AV} {u : AV} (hf : Tryz.prog.funcs[f]? = some fn) (hn : (fn.name == "runtime.NumGoroutine") = false) (hp : prepF Tryz.prog n fn = some F) (hs : Stas us) (hw : wpF gtT A F us St.init (Ret u)) : PF A f us u :=
 PF.of_init gtSta hs (AC_intro Tryz.checked.mixed hf hn hp hw)
theorem s1 {a:AV}(h:Sta a):Stas [a]:=⟨h,trivial⟩
theorem s2 {a b:AV}(h:Sta a)(k:Sta b):Stas [a,b]:=⟨h,k,trivial⟩
theorem s3 {a b c:AV}(h:Sta a)(k:Sta b)(l:Sta c):Stas [a,b,c]:=⟨h,k,l,trivial⟩
theorem sK (l:List (List UInt8)):Sta (.sl 1 stat (strs l)):=sta_sl (sta_strs l)
theorem indT {Q:PT->Prop}(h:∀t,(∀u,u.n<t.n->Q u)->Q t)(t:PT):Q t:=(measure PT.n).wf.induction t h
theorem size3:∀(t:PT) (m:Int),m<4611686018427387904->PF A 32 [encT t,.int .i64 m] (.int .i64 (Dn.size3 t m)) :=
 indT λt ih m h=>pf Tryz.func32 (by kernel_rfl) C1.F32_ok (s2 (sta_T t) trivial) (size3_wp hm (λu hu m h=>ih u hu m h) h)
theorem plain:∀t u:PT,t.ok->PF A 49 [encT t,encT u] (.bool (eqT t u)) :=
 indT λt ih u h=>pf Tryz.func49 (by kernel_rfl) C1.F49_ok (s2 (sta_T t) (sta_T u)) (plain_wp hm ih h)
theorem place (keys:List (List UInt8))(key:List UInt8)(h:keys.length<4611686018427387904):PF A 50 [.sl 1 stat (strs keys),.str key] (.int .i64 (plc key keys 0)) :=
 pf Tryz.func50 (by kernel_rfl) C1.F50_ok (s2 (sK keys) trivial) (place_wp hm h)
theorem hpre0 (s:List UInt8)(c:UInt8):PF A 151 [.str s,.str [c]] (.bool (hd c s)) :=
 pf Tryz.func151 (by kernel_rfl) C1.F151_ok (s2 trivial trivial) hasPre0_wp
theorem hpre (s:List UInt8)(c:UInt8):PF A 132 [.str s,.str [c]] (.bool (hd c s)) :=
 pf Tryz.func132 (by kernel_rfl) C1.F132_ok (s2 trivial trivial) (hasPre_wp hm hpre0)
theorem tpre0 (s:List UInt8)(c:UInt8):PF A 152 [.str s,.str [c]] (.str (if hd c s then s.drop 1 else s)) :=
 pf Tryz.func152 (by kernel_rfl) C1.F152_ok (s2 trivial trivial) (trimPre0_wp hm hpre0)
theorem tpre (s:List UInt8)(c:UInt8):PF A 133 [.str s,.str [c]] (.str (if hd c s then s.drop 1 else s)) :=
 pf Tryz.func133 (by kernel_rfl) C1.F133_ok (s2 trivial trivial) (trimPre_wp hm tpre0)
theorem digit (b:UInt8):PF A 135 [.int .u8 b.toNat] (.bool (dig b)) :=
 pf Tryz.func135 (by kernel_rfl) C1.F135_ok (s1 trivial) digit_wp
theorem run (s:List UInt8)(h:s.length<9223372036854775807):PF A 113 [.str s] (.int .i64 (runB s)) :=
 pf Tryz.func113 (by kernel_rfl) C1.F113_ok (s1 trivial) (run_wp hm digit h)
theorem cut (s:List UInt8)(h:s.length<9223372036854775807):PF A 109 [.str s] (encCut (cutB s)) :=
 pf Tryz.func109 (by kernel_rfl) C1.F109_ok (s1 trivial) (cut_wp hm hpre tpre run h)
theorem ascii {cs:List UInt8}(h:cs.all (λb=>decide (b.toNat<128))=true):∀b∈cs,b.toNat<128:=λb hb=>of_decide_eq_true (List.all_eq_true.1 h b hb)
theorem tl48 (s:List UInt8):PF A 111 [.str s,.str [48]] (.str (trimL [48] s)):=sh_trimL (by decide) (ascii (by decide)) s
theorem tr48 (s:List UInt8)(h:s.length<9223372036854775807):PF A 112 [.str s,.str [48]] (.str (trimR [48] s)):=sh_trimR (by decide) (ascii (by decide)) s h
theorem exponent (e:List UInt8)(h:(expT e).all dig=true):PF A 110 [.str e] (encExp (expB e)) :=
 pf Tryz.func110 (by kernel_rfl) C1.F110_ok (s1 trivial) (exponent_wp hm hpre (λs=>sh_trimL (by decide) (ascii (by decide)) s) tl48 sh_atoi h)
theorem split (s:List UInt8)(h:s.length<9223372036854775807):PF A 87 [.str s] (encSplit (splitB s)) :=
 pf Tryz.func87 (by kernel_rfl) C1.F87_ok (s1 trivial) (split_wp hm cut exponent tl48 tr48 h)
theorem join (p:Parts3)(h:p.2.1.length<=1000):PF A 88 [encP p] (encJoin (joinB p)) :=
 pf Tryz.func88 (by kernel_rfl) C1.F88_ok (s1 ⟨trivial,trivial,trivial,trivial⟩) (join_wp hm run sh_itoa h)
theorem normal (s:List UInt8)(h:s.length<4294967281):PF A 67 [.str s] (encJoin (normB s)) :=
 pf Tryz.func67 (by kernel_rfl) C1.F67_ok (s1 trivial) (normal_wp hm split join (by omega))
theorem two (s:List UInt8):PF A 103 [.str s] (.int .i64 (twoB s)) :=
 pf Tryz.func103 (by kernel_rfl) C1.F103_ok (s1 trivial) two_wp
theorem within (s:List UInt8)(lo hi:Int):PF A 104 [.str s,.int .i64 lo,.int .i64 hi] (.bool (withinB s lo hi)) :=
 pf Tryz.func104 (by kernel_rfl) C1.F104_ok (s3 trivial trivial trivial) (within_wp hm two)
theorem days (y m:Int):PF A 105 [.int .i64 y,.int .i64 m] (.int .i64 (daysB y m)) :=
 pf Tryz.func105 (by kernel_rfl) C1.F105_ok (s2 trivial trivial) days_wp
theorem date (s:List UInt8):PF A 83 [.str s] (.bool (dateB s)) :=
 pf Tryz.func83 (by kernel_rfl) C1.F83_ok (s1 trivial) (date_wp hm two within days)
theorem clock (s:List UInt8)(h:s.length<9223372036854775807):PF A 84 [.str s] (.bool (clockB s)) :=
 pf Tryz.func84 (by kernel_rfl) C1.F84_ok (s1 trivial) (clock_wp hm within (λs h=>sh_trim (by decide) (ascii (by decide)) s h) h)
theorem hsuf0 (s:List UInt8)(c:UInt8)(h:s.length<9223372036854775807):PF A 130 [.str s,.str [c]] (.bool (tl c s)) :=
 pf Tryz.func130 (by kernel_rfl) C1.F130_ok (s2 trivial trivial) (hasSuf0_wp h)
theorem hsuf (s:List UInt8)(c:UInt8)(h:s.length<9223372036854775807):PF A 107 [.str s,.str [c]] (.bool (tl c s)) :=
 pf Tryz.func107 (by kernel_rfl) C1.F107_ok (s2 trivial trivial) (hasSuf_wp hm hsuf0 h)
theorem zone (s:List UInt8)(h:s.length<9223372036854775807):PF A 85 [.str s] (encZ (zoneB s)) :=
 pf Tryz.func85 (by kernel_rfl) C1.F85_ok (s1 trivial) (zone_wp hm hsuf within h)
theorem idxByte (s:List UInt8)(c:UInt8):PF A 147 [.str s,.int .u8 c.toNat] (.int .i64 (idxB c s 0)) :=
 pf Tryz.func147 (by kernel_rfl) C1.F147_ok (s2 trivial trivial) idxByte_wp
theorem idx1 (s:List UInt8):PF A 131 [.str s,.str [84]] (.int .i64 (idxB 84 s 0)) :=
 pf Tryz.func131 (by kernel_rfl) C1.F131_ok (s2 trivial trivial) (idx1_wp hm idxByte)
theorem cutL (s:List UInt8)(h:s.length<4294967281):PF A 108 [.str s,.str [84]] (.tup [.str (cutC 84 s).1,.str (cutC 84 s).2.1,.bool (cutC 84 s).2.2]) :=
 pf Tryz.func108 (by kernel_rfl) C1.F108_ok (s2 trivial trivial) (cutL_wp hm idx1 (by omega))
theorem cutS (s:List UInt8)(h:s.length<4294967281):PF A 86 [.str s,.str [84]] (.tup [.str (cutC 84 s).1,.str (cutC 84 s).2.1,.bool (cutC 84 s).2.2]) :=
 pf Tryz.func86 (by kernel_rfl) C1.F86_ok (s2 trivial trivial) (cutS_wp hm (cutL s h))
theorem time (s:List UInt8)(h:s.length<4294967281):PF A 64 [.str s] (.bool (timeB s)) :=
 pf Tryz.func64 (by kernel_rfl) C1.F64_ok (s1 trivial) (time_wp hm date clock zone cutS h)
theorem rowU (b:UInt8):PF A 99 [.int .u8 b.toNat] (encLead (leadB b.toNat)) :=
 pf Tryz.func99 (by kernel_rfl) C1.F99_ok (s1 trivial) (row_wp hm b)
theorem charU (c:Int):PF A 100 [.int .i64 c] (.bool (charB c)) :=
 pf Tryz.func100 (by kernel_rfl) C1.F100_ok (s1 trivial) charB_wp
theorem firstU (s:List UInt8)(h:s.length<4611686018427387904):PF A 78 [.str s] (encFirst (firstC s)) :=
 pf Tryz.func78 (by kernel_rfl) C1.F78_ok (s1 trivial) (first_wp hm rowU charU h)
theorem badU (s:List UInt8)(h:s.length<4611686018427387904):PF A 53 [.str s] (.int .i64 (badI s 0)) :=
 pf Tryz.func53 (by kernel_rfl) C1.F53_ok (s1 trivial) (bad_wp hm firstU h)
theorem validU (s:List UInt8)(h:s.length<4611686018427387904):PF A 68 [.str s] (.bool (validB s)) :=
 pf Tryz.func68 (by kernel_rfl) C1.F68_ok (s1 trivial) (validP_wp hm badU h)
theorem unlike (keys:List (List UInt8))(hk:∀s∈keys,s.length<4294967281)(hl:keys.length<9223372036854775807):PF A 69 [.sl 1 stat (strs keys)] (.bool (unlikeB [] keys)) :=
 pf Tryz.func69 (by kernel_rfl) C1.F69_ok (s1 (sK keys)) (unlike_wp hm validU (λs h=>by have:=hk s h;omega) hl)
theorem formed:∀t:PT,t.sok->PF A 43 [encT t] (.bool (formedB t)) :=
 indT λt ih h=>pf Tryz.func43 (by kernel_rfl) C1.F43_ok (s1 (sta_T t)) (formed_wp hm normal (λs h=>validU s (by omega)) time unlike ih h)
theorem runs:PF A 3 [] (.bool true) :=
 PF.of_init gtSta trivial (AC_mono _ _ _ _ _ (exec2_sound Tryz.checked.mixed C1.tabOK .nil 200 3 [] St.init retTrue ran) λr S1 q=>by
  cases r with
  | ret x=>cases x<;>simp only[retTrue,Bool.false_eq_true]at q;subst q;exact⟨_,rfl,by simp only[Rdo]⟩
  | pan x=>simp[retTrue]at q)
end Go.Proofs.YtbojekglccdajaaGreatDoor.Fn

namespace Go.Dn
open Go Go.Proofs.C1
set_option maxRecDepth 100000
attribute [local irreducible] afterS keepE
theorem ofBytes_app (a b:List UInt8):ofBytes (a++b)=ofBytes a++ofBytes b:=by simp[ofBytes]
theorem ofBytes_len (a:List UInt8):(ofBytes a).length=a.length:=by simp[ofBytes]
theorem bytes_of:∀a:List UInt8,bytes? (ofBytes a)=some a
 | []=>rfl
 | x::r=>by
  have:=bytes_of r;simp only[ofBytes]at this;simp[ofBytes,bytes?,this]
theorem sx_cvBS {gt:GT}{d:Option Nat}{env:Env}{S:St}{x:DOpd}{o:SI}{xs ys:List AV}{s:List UInt8}(hx:opd env x=some (.sl 1 o xs))(he:elems S false 1 o xs=some ys)(hy:bytes? ys=some s) :
  stepO gt d env S (.cvBS x)=.done (putV d (.str s) env) S:=by
 simp only[stepO,hx,he,Option.bind_some,hy,Option.map_some,SR.val]

section
variable {gt:GT}{C:CallT}
def RunesP (s:List UInt8)(r:Res):Prop:=∃x a w,r=.ret (.tup [x,.agg [.int .i64 a,.int .i64 w]])/\(w == 0)=validB s
abbrev E_rn (s:List UInt8)(o:SI)(xs:List AV)(i:Int):Env:=[(0,.val (.str s)),(3,.box [.int .i64 0,.int .i64 0]),(4,.val (.sl 1 o xs)),(5,.val (.int .i64 i))]
set_option maxHeartbeats 4000000 in
theorem runes_wp (hm:MonoC C)(hone:∀(s:List UInt8) (k:Nat),k<s.length->s.length<4611686018427387904->PF C 120 [.str s,.int .i64 k] (encFirst (firstC (s.drop k)))){s:List UInt8}(hl:s.length<4294967281) :
  wpF gt C F94 [.str s] St.init λr _=>RunesP s r:=by
 have hR:=Hs.init.addNil 3 true;refine⟨rfl,?_⟩;refine goW ?_;refine loop_rule hm (α:=Nat) (λi env S'=>i<=s.length/\(∃o xs,Hs S' [.gr 3 o xs]/\xs.length<=i/\env=E_rn s o xs i)/\badI s 0=badI (s.drop i) i) (λi=>s.length-i) ?_ (a:=0) ⟨Nat.zero_le _,⟨_,_,hR,nR _,rfl⟩,rfl⟩;rintro i env S' ⟨hi,⟨o,xs,hR,hxl,rfl⟩,hp⟩;refine goW ?_;by_cases hc:(i:Int)<(s.length:Nat)
 ·rw[dT hc];have hik:i<s.length:=by omega
  have hcall:=hone s i hik (by omega);have hne:s.drop i≠[]:=λh=>by have:=congrArg List.length h;simp at this;omega
  have hle:=firstC_le (s.drop i);rw[lD]at hle;have hbad:=badI_bad (s:=s.drop i) (a:=i) hne;have hgo:=badI_go (s:=s.drop i) (a:=i) hne;generalize firstC (s.drop i)=q at hcall hle hbad hgo;obtain⟨c,n⟩:=q;simp only at hle hbad hgo;refine goW ?_;refine call_pf hm (by rfl) hcall (goW ?_);by_cases hz:n=0
  ·rw[eqI_true (show (n:Int)=0 by omega)];refine goW ?_;refine⟨_,rfl,_,_,_,rfl,?_⟩;unfold validB;rw[hp,hbad hz,dF (by omega)];rfl
  rw[eqI_false (show ¬(n:Int)=0 by omega)];refine goW ?_;obtain⟨hR,hsrc⟩:=hR.bldT 3 1;refine r_app hR 0 rfl trivial rfl rfl (hsrc _ _ _) (by simp;omega) (by simp;omega) (by decide) (by decide) rfl ?_;intro o3 S3 hR;refine goW ?_;refine⟨i+n,⟨by omega,⟨_,_,hR,by simp;omega,?_⟩,by rw[hp,hgo hz,List.drop_drop]⟩,by omega⟩;simp only[E_rn];rw[wr64 (by omega) (by omega),show (i:Int)+(n:Int)=((i+n:Nat):Int) by omega]
  try rfl
 ·rw[dF hc];refine goW ?_;refine⟨_,rfl,_,_,_,rfl,?_⟩;unfold validB;rw[hp,List.drop_eq_nil_of_le (by omega),badI_nil];rfl
set_option maxHeartbeats 4000000 in
theorem validR_wp (hm:MonoC C){s:List UInt8}(h:C 94 [.str s] St.init λr _=>RunesP s r):wpF gt C F74 [.str s] St.init (Ret (.bool (validB s))):=by
 refine⟨rfl,?_⟩;refine goW ?_;refine call_rule (by rfl) (hm _ _ _ _ _ h ?_);rintro r S' ⟨x,a,w,rfl,hw⟩;rw[<-hw];refine goW ?_;exact⟨_,rfl,Ret.sta trivial⟩
end

section
variable {gt:GT}{C:CallT}
abbrev E_sh (t:PT)(i:Int):Env:=[(1,.box (encT t).cells),(8,.val (.int .i64 i))]
set_option maxHeartbeats 8000000 in
theorem shapedEnd_wp (hm:MonoC C){k:Int}{s:List UInt8}{keys:List (List UInt8)}{kids:List PT}(ih:∀u,u.n<(PT.mk k s keys kids).n->u.sok->PF C 47 [encT u] (.bool (formedB u)))(hk:PT.soks kids)(hl:kids.length<9223372036854775807){z:Env}{S:St}{res:Bool}(hf:res=(formedBs kids && beqB s [])) :
  wpD gt C F47.body.rt.rt.rt ((1,.box (encT (.mk k s keys kids)).cells)::z) S (bodyQ gt F47.res (Ret (.bool res))):=by
 have ret:∀{o:Bool} {S:St},res=o->Ret (.bool res) (.ret (.bool o)) S:=λh=>by rw[h];exact Ret.sta trivial
 have l1:=encTs_len kids
 conv=>whnf
 refine goW ?_;refine loop_rule hm (α:=Nat) (λi env S'=>i<=kids.length/\env=E_sh (.mk k s keys kids) i/\S'=S/\formedBs kids=formedBs (kids.drop i)) (λi=>kids.length-i) ?_ (a:=0) ⟨Nat.zero_le _,rfl,rfl,rfl⟩;rintro i env S' ⟨hi,rfl,rfl,hp⟩;refine goW ?_;by_cases hc:(i:Int)<(encTs kids).length
 ·rw[dT hc];have hik:i<kids.length:=by omega
  have ihk:=ih _ (kid_lt hik) (PT.soks_get hik hk);have hget:=encTs_get hik;rw[dC hik]at hp;simp only[formedBs]at hp;generalize kids[i]=u at ihk hget hp;generalize formedB u=fb at ihk hp;obtain⟨uk,us,ukeys,ukids⟩:=u;refine goW ?_;refine step_ruleO (sx_ia (k:=i) rfl rfl (by omega)) (goW ?_);refine step_ruleO (sx_ldEl (agg:=true) rfl rfl hget (rdT _)) (goW ?_);refine call_pf hm (by rfl) ihk ?_;cases fb with
  | false =>
   refine goW ?_;exact⟨_,rfl,ret (by rw[hf,hp];rfl)⟩
  | true =>
   rw[Bool.true_and]at hp;refine goW ?_;refine⟨i+1,⟨by omega,?_,rfl,hp⟩,by omega⟩;rw[wrNat (by omega)]
   try rfl
 ·rw[dF hc];rw[hp,List.drop_eq_nil_of_le (by omega)]at hf;simp only[formedBs,Bool.true_and]at hf;refine goW ?_;exact⟨_,rfl,ret hf⟩
abbrev E_kn (t:PT)(id:Nat)(i:Int):Env:=[(1,.box (encT t).cells),(6,.val (.map id)),(7,.val (.int .i64 i))]
set_option maxHeartbeats 16000000 in
theorem shaped_wp (hm:MonoC C)(hn:∀s:List UInt8,s.length<4611686018427387904->PF C 73 [.str s] (encJoin (normB s)))(hv:∀s:List UInt8,s.length<4294967281->PF C 74 [.str s] (.bool (validB s)))
  (ht:∀s:List UInt8,s.length<4611686018427387904->PF C 75 [.str s] (.bool (timeB s)))
  {t:PT} (ih:∀u,u.n<t.n->u.sok->PF C 47 [encT u] (.bool (formedB u))) (hk:t.sok):wpF gt C F47 [encT t] St.init (Ret (.bool (formedB t))):=by
 obtain⟨k,s,keys,kids⟩:=t;simp only[PT.sok]at hk;obtain⟨q1,q2,q3,q5,q4⟩:=hk;have hf:formedB (.mk k s keys kids)=(formedBs kids && shapeB k s keys kids.length):=rfl;generalize formedB (.mk k s keys kids)=res at hf ⊢;have ret:∀{z:Bool} {S:St},res=z->Ret (.bool res) (.ret (.bool z)) S:=λh=>by rw[h];exact Ret.sta trivial
 have fin:=λ(h:res=(formedBs kids && beqB s [])) (z:Env) (S:St)=>shapedEnd_wp (gt:=gt) (z:=z) (S:=S) hm ih q4 (by omega) h;have l1:=encTs_len kids;have l2:=strs_length keys;have hparts:wr .i64 (((strs keys).length:Int)+((encTs kids).length:Int))=((keys.length+kids.length:Nat):Int):=by rw[wr64 (by omega) (by omega)];omega
 have hbare:(((keys.length+kids.length:Nat):Int) == 0)=(decide (keys.length=0) && decide (kids.length=0)):=by
  rw[Bool.eq_iff_iff,beq_iff_eq,bA,decide_eq_true_eq,decide_eq_true_eq];omega
 have hks:∀x:Bool,(formedBs kids && ((decide (keys.length=0) && decide (kids.length=0)) && x))=((decide (keys.length=0) && decide (kids.length=0)) && x):=λx=>by
  cases hq:(decide (keys.length=0) && decide (kids.length=0)) with
  | false=>simp
  | true =>
   rw[bA,decide_eq_true_eq,decide_eq_true_eq]at hq;have:kids=[]:=nL hq.2;rw[this];rfl
 unfold shapeB at hf;refine⟨rfl,?_⟩;refine goW ?_;rw[hparts];by_cases k1:k=1
 ·rw[eqI_true k1];rw[if_pos k1,hks,<-hbare]at hf;refine goW ?_;cases hs:beqB s [] with
  | false =>
   refine goW ?_;exact⟨_,rfl,ret (by rw[hf,hs,Bool.and_false])⟩
  | true =>
   refine goW ?_;exact⟨_,rfl,ret (by rw[hf,hs,Bool.and_true])⟩
 rw[eqI_false k1];rw[if_neg k1]at hf;refine goW ?_;by_cases k2:k=2
 ·rw[eqI_true k2];rw[if_pos k2,hks,<-hbare]at hf;refine goW ?_;cases hs:beqB s [116,114,117,101] with
  | true =>
   refine goW ?_;exact⟨_,rfl,ret (by rw[hf,hs,Bool.true_or,Bool.and_true])⟩
  | false =>
   refine goW ?_;cases hs2:beqB s [102,97,108,115,101] with
   | true =>
    refine goW ?_;exact⟨_,rfl,ret (by rw[hf,hs,hs2,Bool.false_or,Bool.and_true])⟩
   | false =>
    refine goW ?_;exact⟨_,rfl,ret (by rw[hf,hs,hs2,Bool.false_or,Bool.and_false])⟩
 rw[eqI_false k2];rw[if_neg k2]at hf;refine goW ?_;by_cases k3:k=3
 ·rw[eqI_true k3];rw[if_pos k3,hks,<-hbare]at hf;have hns:=hn s (by omega);generalize normB s=nb at hns hf;obtain⟨ns,ne⟩:=nb;simp only at hf;refine goW ?_;refine call_pf hm (by rfl) hns (goW ?_);by_cases he:ne=0
  case neg =>
   rw[eqI_false he];refine goW ?_;exact⟨_,rfl,ret (by rw[hf,dF he,Bool.false_and,Bool.and_false])⟩
  rw[eqI_true he];rw[dT he,Bool.true_and]at hf;refine goW ?_;cases hs:beqB ns s with
  | false =>
   refine goW ?_;exact⟨_,rfl,ret (by rw[hf,hs,Bool.and_false])⟩
  | true =>
   refine goW ?_;exact⟨_,rfl,ret (by rw[hf,hs,Bool.and_true])⟩
 rw[eqI_false k3];rw[if_neg k3]at hf;refine goW ?_;by_cases k4:k=4
 ·rw[eqI_true k4];rw[if_pos k4,hks,<-hbare]at hf;have hvs:=hv s q1;generalize validB s=vb at hvs hf;refine goW ?_;refine call_pf hm (by rfl) hvs ?_;cases vb with
  | false =>
   refine goW ?_;exact⟨_,rfl,ret (by rw[hf,Bool.and_false])⟩
  | true =>
   refine goW ?_;exact⟨_,rfl,ret (by rw[hf,Bool.and_true])⟩
 rw[eqI_false k4];rw[if_neg k4]at hf;refine goW ?_;by_cases k5:k=5
 ·rw[eqI_true k5];rw[if_pos k5,hks,<-hbare]at hf;have hts:=ht s (by omega);generalize timeB s=tb at hts hf;refine goW ?_;refine call_pf hm (by rfl) hts ?_;cases tb with
  | false =>
   refine goW ?_;exact⟨_,rfl,ret (by rw[hf,Bool.and_false])⟩
  | true =>
   refine goW ?_;exact⟨_,rfl,ret (by rw[hf,Bool.and_true])⟩
 rw[eqI_false k5];rw[if_neg k5]at hf;refine goW ?_;by_cases k6:k=6
 ·rw[eqI_true k6];rw[if_pos k6]at hf;refine goW ?_;by_cases hz:((strs keys).length:Int) > 0
  ·rw[dT hz];refine goW ?_;exact⟨_,rfl,ret (by rw[hf,dF (by omega),Bool.and_false,Bool.and_false])⟩
  ·rw[dF hz];rw[dT (show keys.length=0 by omega),Bool.and_true]at hf;have fin:=fin hf;refine goK ?_
   with_unfolding_all exact fin [] _
 rw[eqI_false k6];rw[if_neg k6]at hf;refine goW ?_;by_cases k7:k=7
 case neg =>
  rw[eqI_false k7];rw[if_neg k7,Bool.and_false]at hf;refine goW ?_;exact⟨_,rfl,ret hf⟩
 rw[eqI_true k7];rw[if_pos k7]at hf;refine goW ?_;by_cases hkk:keys.length=kids.length
 case neg =>
  rw[neI_true (show ¬(((strs keys).length:Nat):Int)=(encTs kids).length by omega)];refine goW ?_;exact⟨_,rfl,ret (by rw[hf,dF hkk,Bool.false_and,Bool.and_false,Bool.and_false])⟩
 rw[neI_false (show (((strs keys).length:Nat):Int)=(encTs kids).length by omega)];rw[dT hkk,Bool.true_and]at hf;have hmk:=hs_mkm0;refine goW ?_;refine loop_rule hm (α:=Nat) (λi env S'=>i<=keys.length/\Hs S' [.mp St.init.nm (mpE (ones (keys.take i)))]/\env=E_kn (.mk k s keys kids) St.init.nm i/\unlikeB [] keys=unlikeB (keys.take i) (keys.drop i)) (λi=>keys.length-i) ?_ (a:=0) ⟨Nat.zero_le _,hmk,rfl,rfl⟩;rintro i env S' ⟨hi,hR,rfl,hp⟩;refine goW ?_;by_cases hc:(i:Int)<(strs keys).length
 ·rw[dT hc];have hik:i<keys.length:=by omega
  have hget:=strs_at hik;have htk:keys.take (i+1)=keys.take i++[keys[i]]:=tS hik;have hvs:=hv keys[i] (q2 _ (List.getElem_mem hik));rw[dC hik]at hp;simp only[unlikeB]at hp;generalize keys[i]=a at hget htk hvs hp;refine goW ?_;refine step_ruleO (sx_ia (k:=i) rfl rfl (by omega)) (goW ?_);refine step_ruleO (sx_ldEl (agg:=false) rfl rfl hget rfl) (goW ?_);refine step_ruleO (sx_lkpS hR 0 rfl rfl rfl) ?_;by_cases hmem:a∈keys.take i
  ·obtain⟨j,hj⟩:=posS_ones hmem;rw[if_pos hmem]at hp;rw[hj];refine goW ?_;exact⟨_,rfl,ret (by rw[hf,hp,Bool.and_false,Bool.and_false])⟩
  rw[posS_no hmem];rw[if_neg hmem]at hp;refine goW ?_;refine st_any (by exact rfl) (sx_ia (k:=i) rfl rfl (by omega)) (goW ?_);refine st_any (by exact rfl) (sx_ldEl (agg:=false) rfl rfl hget rfl) (goW ?_);refine call_pf hm (by rfl) hvs ?_;cases hva:validB a with
  | false =>
   rw[hva]at hp;refine goW ?_;exact⟨_,rfl,ret (by rw[hf,hp,Bool.false_and,Bool.and_false,Bool.and_false])⟩
  | true =>
   rw[hva,Bool.true_and]at hp;refine goW ?_;refine step_ruleO (sx_ia (k:=i) rfl rfl (by omega)) (goW ?_);refine step_ruleO (sx_ldEl (agg:=false) rfl rfl hget rfl) (goW ?_);refine st_runP (r_mupS hR 0 rfl rfl rfl rfl) (by trivial) ?_;intro S2 hR;refine goW ?_;refine⟨i+1,⟨by omega,?_,?_,by rw[htk];exact hp⟩,by omega⟩
   ·rw[htk];have:putS a 1 (ones (keys.take i))=ones (keys.take i++[a]):=by unfold putS;rw[posS_no hmem];simp[ones]
    rw[<-this];exact hR
   ·rw[wrNat (by omega)]
    try rfl
 ·rw[dF hc];rw[hp,List.drop_eq_nil_of_le (by omega)]at hf;simp only[unlikeB,Bool.and_true]at hf;have fin:=fin hf;refine goK ?_
  with_unfolding_all exact fin [] _
end

mutual
theorem size3_ub:∀(t:PT) (m:Int),size3 t m<=t.n
 |.mk _ _ _ kids,m=>by
  have:=szs_ub kids m 1;simp only[size3,PT.n];omega
theorem szs_ub:∀(l:List PT) (m n:Int),szs l m n<=n+PT.ns l
 | [],m,n=>by simp[szs,PT.ns]
 | t::r,m,n=>by
  simp only[szs,PT.ns];split
  ·have h1:=szs_ub r m (n+size3 t (m-n));have h2:=size3_ub t (m-n);omega
  ·omega
end
section
variable {gt:GT}{C:CallT}
abbrev E_dp3 (t:PT)(n:Nat)(i:Int):Env:=[(1,.box (encT t).cells),(3,.val (.int .i64 n)),(4,.val (.int .i64 i))]
set_option maxHeartbeats 4000000 in
theorem depth3_wp (hm:MonoC C){t:PT}(ih:∀u,u.n<t.n->PF C 46 [encT u] (.int .i64 u.dp))(hl:t.n<4611686018427387904):wpF gt C F46 [encT t] St.init (Ret (.int .i64 t.dp)):=by
 have hdl:=PT.dp_le t;obtain⟨k,s,keys,kids⟩:=t;have l1:=encTs_len kids;have l3:=PT.len_ns kids;have hn:(PT.mk k s keys kids).n=PT.ns kids+1:=rfl;have hd:(PT.mk k s keys kids).dp=PT.dps kids+1:=rfl;refine⟨rfl,?_⟩;refine goW ?_;refine loop_rule hm (α:=Nat) (λi env S'=>i<=kids.length/\env=E_dp3 (.mk k s keys kids) (PT.dps (kids.take i)) i/\S'=St.init) (λi=>kids.length-i) ?_ (a:=0) ⟨Nat.zero_le _,rfl,rfl⟩;rintro i env S' ⟨hi,rfl,rfl⟩;refine goW ?_;by_cases hc:(i:Int)<(encTs kids).length
 ·rw[dT hc];have hik:i<kids.length:=by omega
  have ihk:=ih _ (kid_lt hik);have hget:=encTs_get hik;have hts:PT.dps (kids.take (i+1))=max (PT.dps (kids.take i)) kids[i].dp:=by rw[tS hik,PT.dps_app];simp[PT.dps]
  generalize kids[i]=u at ihk hget hts;generalize u.dp=d at ihk hts;obtain⟨uk,us,ukeys,ukids⟩:=u;generalize PT.dps (kids.take i)=c at hts ⊢;refine goW ?_;refine step_ruleO (sx_ia (k:=i) rfl rfl (by omega)) (goW ?_);refine step_ruleO (sx_ldEl (agg:=true) rfl rfl hget (rdT _)) (goW ?_);refine call_pf hm (by rfl) ihk (goW ?_);by_cases hg:(d:Int) > (c:Int)
  ·rw[dT hg];rw[show max c d=d by omega]at hts;refine goW ?_;refine⟨i+1,⟨by omega,?_,rfl⟩,by omega⟩;rw[wrNat (by omega),hts]
   try rfl
  ·rw[dF hg];rw[show max c d=c by omega]at hts;refine goW ?_;refine⟨i+1,⟨by omega,?_,rfl⟩,by omega⟩;rw[wrNat (by omega),hts]
   try rfl
 ·rw[dF hc];refine goW ?_;refine⟨_,rfl,?_⟩;rw[List.take_of_length_le (by omega),hd,wrNat (by omega)];exact Ret.sta trivial
set_option maxHeartbeats 4000000 in
theorem right3_wp (hm:MonoC C){t:PT}(hd:PF C 46 [encT t] (.int .i64 t.dp))(hs:PF C 32 [encT t,.int .i64 4097] (.int .i64 (size3 t 4097)))
  (hf:PF C 47 [encT t] (.bool (formedB t))):wpF gt C F33 [encT t] St.init (Ret (.int .i64 (rightB t))):=by
 have hr:rightB t=if 64<t.dp then 4 else if 4096<t.n then 3 else if formedB t=true then 0 else 1:=rfl
 have h1:=size3_ub t 4097;have h2:=size3_n t 4097;generalize rightB t=res at hr ⊢;generalize t.dp=dp at hd hr;generalize hh:t.n=n at h1 h2 hr;generalize size3 t 4097=sz at hs h1 h2;generalize formedB t=fb at hf hr;obtain⟨k,s,keys,kids⟩:=t;refine⟨rfl,?_⟩;refine goW ?_;refine call_pf hm (by rfl) hd (goW ?_);by_cases z1:(dp:Int) > 64
 ·rw[dT z1];refine goW ?_;rw[hr,if_pos (by omega)];exact⟨_,rfl,Ret.sta trivial⟩
 rw[dF z1];rw[if_neg (by omega)]at hr;refine goW ?_;refine call_pf hm (by rfl) hs (goW ?_);by_cases z2:sz > 4096
 ·rw[dT z2];refine goW ?_;rw[hr,if_pos (by omega)];exact⟨_,rfl,Ret.sta trivial⟩
 rw[dF z2];rw[if_neg (by omega)]at hr;refine goW ?_;refine call_pf hm (by rfl) hf ?_;cases fb with
 | false =>
  refine goW ?_;rw[hr];exact⟨_,rfl,Ret.sta trivial⟩
 | true =>
  refine goW ?_;rw[hr];exact⟨_,rfl,Ret.sta trivial⟩
end
end Go.Dn

namespace Go.Dn
open Go
theorem dropW_nil {p:UInt8->Bool}:∀{l:List UInt8},l.dropWhile p=[]↔∀x∈l,p x=true
 | []=>by simp
 | a::r=>by
  rw[List.dropWhile_cons];by_cases h:p a=true
  ·rw[if_pos h,dropW_nil];simp only[List.mem_cons,forall_eq_or_imp,h,true_and]
  ·rw[if_neg h];simp only[List.mem_cons,forall_eq_or_imp,h,false_and,reduceCtorEq]
theorem trimR_app {cs z r:List UInt8}(h:trimR cs r≠[]):trimR cs (z++r)=z++trimR cs r:=by
 unfold trimR at h ⊢;rw[List.reverse_append,List.dropWhile_append,if_neg (by simpa using h),List.reverse_append,List.reverse_reverse]
theorem trimR_pre (cs r:List UInt8):trimR cs r <+: r:=by
 unfold trimR;rw[<-List.reverse_suffix,List.reverse_reverse];exact List.dropWhile_suffix _
theorem trimL_all {cs z:List UInt8}(h:∀x∈z,cs.contains x=true):trimL cs z=[]:=dropW_nil.2 h
theorem trimR_all {cs z:List UInt8}(h:∀x∈z,cs.contains x=true):trimR cs z=[]:=by
 unfold trimR;rw[dropW_nil.2 λx hx=>h x (List.mem_reverse.1 hx)];rfl
theorem trimR_head {cs:List UInt8}{b:UInt8}{r:List UInt8}(h:cs.contains b=false):trimR cs (b::r)≠[]/\trimL cs (trimR cs (b::r))=trimR cs (b::r):=by
 have h1:trimR cs (b::r)≠[]:=by
  intro e;unfold trimR at e;rw[List.reverse_eq_nil_iff,dropW_nil]at e;have:=e b (by simp);rw[h]at this;cases this
 refine⟨h1,?_⟩;obtain⟨t,ht⟩:=trimR_pre cs (b::r);cases hh:trimR cs (b::r) with
 | nil=>exact absurd hh h1
 | cons c q =>
  rw[hh]at ht;simp only[List.cons_append,List.cons.injEq]at ht;obtain⟨rfl,_⟩:=ht;unfold trimL;rw[List.dropWhile_cons_of_neg (by rw[h];simp)]
theorem trim_comm (cs d:List UInt8):trimL cs (trimR cs d)=trimR cs (trimL cs d)/\(trimR cs (trimL cs d)≠[]->d.length-(trimR cs d).length=(trimL cs d).length-(trimR cs (trimL cs d)).length):=by
 have hd:=List.takeWhile_append_dropWhile (p:=(cs.contains ·)) (l:=d);have hz:∀x∈d.takeWhile (cs.contains ·),cs.contains x=true:=λx hx=>List.all_takeWhile (l:=d) (p:=(cs.contains ·)) |> λh=>by
  have:=List.all_eq_true.1 h x hx;simpa using this
 cases hr:d.dropWhile (cs.contains ·) with
 | nil =>
  rw[hr,List.append_nil]at hd;rw[hd]at hz;rw[trimR_all hz,trimL_all hz];exact⟨rfl,λh=>absurd rfl h⟩
 | cons b r =>
  have hb:cs.contains b=false:=by
   have:=List.head_dropWhile_not (p:=(cs.contains ·)) (l:=d) (by rw[hr];simp);simp only[hr,List.head_cons]at this;exact this
  rw[hr]at hd;have hL:trimL cs d=b::r:=hr;obtain⟨h1,h2⟩:=trimR_head (r:=r) hb;have hR:trimR cs d=d.takeWhile (cs.contains ·)++trimR cs (b::r):=by
   conv=>lhs;rw[<-hd]
   exact trimR_app h1
  rw[hL];refine⟨?_,λ_=>?_⟩
  ·rw[hR];unfold trimL;rw[List.dropWhile_append,dropW_nil.2 hz];exact h2
  ·rw[hR,lA];have:=congrArg List.length hd;rw[lA]at this;omega
end Go.Dn

namespace Go.Dn
open Go Go.Proofs.C1
set_option maxRecDepth 100000
attribute [local irreducible] afterS keepE
theorem decB_step {n:Nat}(h:¬n<10):decB n=decB (n / 10)++[UInt8.ofNat (48+n % 10)]:=by
 conv=>lhs;unfold decB
 rw[dif_neg h]
theorem decB_last {n:Nat}(h:n<10):decB n=[UInt8.ofNat (48+n)]:=by
 unfold decB;rw[dif_pos h]
theorem decB_le {n k:Nat}(h:n<10 ^ (k+1)):(decB n).length<=k+1:=by
 induction k generalizing n with
 | zero=>rw[decB_last (by omega)];simp
 | succ k ih =>
  by_cases h10:n<10
  ·rw[decB_last h10];simp
  ·rw[decB_step h10];rw[pow1]at h;have:=ih (n:=n / 10) (by omega);simp only[lA,lC,lN];omega
theorem wrapU (n:Int):IntKind.u64.wrap n=n % 18446744073709551616:=by simp[IntKind.wrap,IntKind.bits,IntKind.signed]
theorem digByte {m:Nat}(h:m<10):wr .u8 (wr .i64 (48+(m:Int)))=((UInt8.ofNat (48+m)).toNat:Int):=by
 rw[wr64 (by omega) (by omega),show (48:Int)+(m:Int)=((48+m:Nat):Int) by omega,UInt8.toNat_ofNat',Nat.mod_eq_of_lt (by omega)];rw[wr8 (by omega) (by omega)]
section
variable {gt:GT}{C:CallT}
abbrev E_dg (n:Int)(o:SI)(acc:List UInt8):Env:=[(0,.val (.int .i64 n)),(3,.val (.sl 1 o (ofBytes acc)))]
abbrev E_dg2 (o:SI)(acc:List UInt8)(o2:SI)(out:List UInt8)(i:Int):Env:=[(3,.val (.sl 1 o (ofBytes acc))),(4,.val (.sl 1 o2 (ofBytes out))),(5,.val (.int .i64 i))]
set_option maxHeartbeats 4000000 in
theorem digits_wp (hm:MonoC C){n0:Nat}(hn:n0<9223372036854775808):wpF gt C F140 [.int .i64 n0] St.init (Ret (.str (decB n0))):=by
 have hlen:(decB n0).length<=19:=decB_le (k:=18) (Nat.lt_of_lt_of_le hn (by decide));have hR:=Hs.init.addNil 5 false;refine⟨rfl,?_⟩;refine goW ?_;refine loop_rule hm (α:=Nat×List UInt8) (λa env S'=>a.1<=n0/\∃o,Hs S' [.gr 5 o (ofBytes a.2)]/\env=E_dg a.1 o a.2/\decB n0=decB a.1++a.2.reverse) (λa=>a.1) ?_ (a:=(n0,[])) ⟨nR _,_,hR,rfl,by simp⟩;rintro⟨n,acc⟩ env S' ⟨hle,o,hR,rfl,hf⟩;simp only at hle hR hf;have hfl:=congrArg List.length hf;rw[lA,List.length_reverse]at hfl;have e1:(n:Int).tmod 10=((n % 10:Nat):Int):=by rw[Int.ofNat_tmod];rfl
 have e2:(n:Int).tdiv 10=((n / 10:Nat):Int):=by rw[Int.ofNat_tdiv];rfl
 refine goW ?_;by_cases h9:(n:Int) > 9
 ·rw[dT h9];refine goW ?_;obtain⟨hR,hsrc⟩:=hR.bldT 5 1;refine r_app hR 0 rfl trivial rfl rfl (hsrc _ _ _) (by rw[ofBytes_len];simp;omega) (by rw[ofBytes_len];simp;omega) (by decide) (by decide) rfl ?_;intro o3 S3 hR;refine goW ?_;have e3:ofBytes acc++[.int .u8 (wr .u8 (wr .i64 (48+((n:Int).tmod 10))))]=ofBytes (acc++[UInt8.ofNat (48+n % 10)]):=by rw[e1,digByte (by omega),ofBytes_app];rfl
  refine⟨(n / 10,acc++[UInt8.ofNat (48+n % 10)]),⟨by simp only;omega,o3,by rw[<-e3];exact hR,?_,?_⟩,by simp only;omega⟩
  ·simp only[E_dg];rw[<-e3,e2,wr64 (by omega) (by omega)]
   try rfl
  ·simp only;rw[hf,decB_step (n:=n) (by omega),List.reverse_append,aA];rfl
 rw[dF h9];rw[decB_last (n:=n) (by omega)]at hf hfl;refine goW ?_;obtain⟨hR,hsrc⟩:=hR.bldT 5 1;refine r_app hR 0 rfl trivial rfl rfl (hsrc _ _ _) (by rw[ofBytes_len];simp;omega) (by rw[ofBytes_len];simp;omega) (by decide) (by decide) rfl ?_;intro o3 S3 hR;have e3:ofBytes acc++[.int .u8 (wr .u8 (wr .i64 (48+(n:Int))))]=ofBytes (acc++[UInt8.ofNat (48+n)]):=by rw[digByte (by omega),ofBytes_app];rfl
 have hR:=hR.addNil 5 false;have hf2:decB n0=(acc++[UInt8.ofNat (48+n)]).reverse:=by rw[hf,List.reverse_append];rfl
 generalize acc++[UInt8.ofNat (48+n)]=ac2 at e3 hf2;have hl2:ac2.length<=19:=by rw[<-List.length_reverse,<-hf2];exact hlen
 have hR:Hs S3 [.gr 5 o3 (ofBytes ac2),.gr 5 ⟨none,0,some 0,false⟩ (ofBytes [])]:=by rw[<-e3];exact hR
 have ln:=ofBytes_len ac2;refine goW ?_;rw[show ofBytes acc++(List.replicate 1 (AV.int IntKind.u8 0)).set 0 (AV.int IntKind.u8 (wr IntKind.u8 (wr IntKind.i64 (48+(n:Int)))))=ofBytes ac2 from e3];refine loop_rule hm (α:=Nat) (λi env S'=>i<=ac2.length/\∃o2,Hs S' [.gr 5 o3 (ofBytes ac2),.gr 5 o2 (ofBytes (ac2.reverse.take i))]/\env=E_dg2 o3 ac2 o2 (ac2.reverse.take i) ((ac2.length:Int)-1-i)) (λi=>ac2.length-i) ?_ (a:=0) ⟨Nat.zero_le _,_,hR,?_⟩
 case refine_2 =>
  simp only[E_dg2];rw[wr64 (by omega) (by omega),ln];simp
  try rfl
 rintro i env S' ⟨hi,o2,hR,rfl⟩;refine goW ?_;by_cases hc:((ac2.length:Int)-1-i) ≥ 0
 ·rw[dT hc];refine goW ?_;have hik:ac2.length-1-i<ac2.length:=by omega
  have hge:(ofBytes ac2)[ac2.length-1-i]? = some (.int .u8 (ac2[ac2.length-1-i]).toNat):=by
   simp only[ofBytes,List.getElem?_map,gE hik,Option.map_some]
  rw[show (ac2.length:Int)-1-i=((ac2.length-1-i:Nat):Int) by omega];refine step_ruleO (sx_ia (k:=ac2.length-1-i) rfl rfl (by omega)) (goW ?_);refine step_ruleO (sx_ldEl (agg:=false) rfl ((hR.ok 0 _ rfl).els false 1) hge rfl) (goW ?_);obtain⟨hR,hsrc⟩:=hR.bldT 5 1;refine r_app hR 1 rfl trivial rfl rfl (hsrc _ _ _) (by rw[ofBytes_len,lT];simp;omega) (by rw[ofBytes_len,lT];simp;omega) (by decide) (by decide) rfl ?_;intro o4 S4 hR;refine goW ?_;have e4:ofBytes (ac2.reverse.take i)++[.int .u8 (ac2[ac2.length-1-i].toNat:Int)]=ofBytes (ac2.reverse.take (i+1)):=by
   rw[tS (by rw[List.length_reverse];omega),ofBytes_app,List.getElem_reverse];rfl
  refine⟨i+1,⟨by omega,o4,by rw[<-e4];exact hR,?_⟩,by omega⟩;simp only[E_dg2];rw[<-e4,wr64 (by omega) (by omega),show ((ac2.length-1-i:Nat):Int)-1=(ac2.length:Int)-1-((i+1:Nat):Int) by omega]
  try rfl
 ·rw[dF hc];refine goW ?_;rw[List.take_of_length_le (by rw[List.length_reverse];omega)]at hR ⊢;rw[hf2];have hel:=(hR.ok 1 _ rfl).els false 1;refine step_ruleO (sx_cvBS rfl hel (bytes_of _)) (goW ?_);exact⟨_,rfl,Ret.sta trivial⟩
set_option maxHeartbeats 4000000 in
theorem decimal_wp (hm:MonoC C)(hd:∀n:Nat,n<9223372036854775808->PF C 140 [.int .i64 n] (.str (decB n))){e:Int}(h1:-999999<=e)(h2:e<=999999):wpF gt C F119 [.int .i64 e] St.init (Ret (.str (itoaB e))):=by
 refine⟨rfl,?_⟩;refine goW ?_;by_cases h0:e ≥ 0
 ·rw[dT h0];obtain⟨n,rfl⟩:∃n:Nat,e=n:=⟨e.toNat,by omega⟩
  refine goW ?_;refine call_pf hm (by rfl) (hd n (by omega)) (goW ?_);refine⟨_,rfl,?_⟩;rw[show itoaB (n:Int)=decB n by unfold itoaB;rw[if_neg (by omega),Int.toNat_natCast]];exact Ret.sta trivial
 ·rw[dF h0];obtain⟨n,hn,rfl⟩:∃n:Nat,0<n/\e=-(n:Int):=⟨e.natAbs,by omega,by omega⟩
  have hi:itoaB (-(n:Int))=45::decB n:=by unfold itoaB;rw[if_pos (by omega),Int.natAbs_neg,Int.natAbs_natCast]
  have w0:wr .u64 (-(n:Int))=18446744073709551616-(n:Int):=by rw[wr_eq,wrapU];omega
  have w1:wr .u64 (0-(18446744073709551616-(n:Int)))=(n:Int):=by rw[wr_eq,wrapU];omega
  have e1:(n:Int).tmod 10=((n % 10:Nat):Int):=by rw[Int.ofNat_tmod];rfl
  have e2:(n:Int).tdiv 10=((n / 10:Nat):Int):=by rw[Int.ofNat_tdiv];rfl
  have hw:∀m:Nat,m<=999999->wr .u64 (m:Int)=m:=λm hm=>by rw[wr_eq,wrapU];omega
  refine goW ?_;rw[w0,w1,e1,wr64 (n:=((n % 10:Nat):Int)) (by omega) (by omega)];refine call_pf hm (by rfl) (hd (n % 10) (by omega)) (goW ?_);by_cases h10:(n:Int) ≥ 10
  ·rw[dT h10];refine goW ?_;rw[e2,hw _ (by omega),wr64 (n:=((n / 10:Nat):Int)) (by omega) (by omega)];refine call_pf hm (by rfl) (hd (n / 10) (by omega)) (goW ?_);have q1:(decB (n / 10)).length<=6:=decB_le (k:=5) (by omega);have q2:(decB (n % 10)).length<=6:=decB_le (k:=5) (by omega);have q3:decB (n / 10)++decB (n % 10)=decB n:=by rw[decB_step (n:=n) (by omega),decB_last (n:=n % 10) (by omega)]
   refine step_ruleO (st_addS rfl rfl (by omega)) ?_;rw[q3];have q4:(decB n).length<=6:=decB_le (k:=5) (by omega);refine goW ?_;refine step_ruleO (st_addS rfl rfl (by simp only[lC,lN];omega)) (goW ?_);refine⟨_,rfl,?_⟩;rw[hi];exact Ret.sta trivial
  ·rw[dF h10];refine goW ?_;rw[Nat.mod_eq_of_lt (by omega:n<10)];have q4:(decB n).length<=6:=decB_le (k:=5) (by omega);refine step_ruleO (st_addS rfl rfl (by simp only[lC,lN];omega)) (goW ?_);refine⟨_,rfl,?_⟩;rw[hi];exact Ret.sta trivial
end

theorem trimR_snoc (cs d:List UInt8)(b:UInt8):trimR cs (d++[b])=if cs.contains b=true then trimR cs d else d++[b]:=by
 unfold trimR;rw[List.reverse_append,List.reverse_singleton,List.singleton_append,List.dropWhile_cons];split
 ·rfl
 ·rw[List.reverse_cons,List.reverse_reverse]
theorem trimL_cons (cs d:List UInt8)(b:UInt8):trimL cs (b::d)=if cs.contains b=true then trimL cs d else b::d:=by
 unfold trimL;rw[List.dropWhile_cons]
theorem has48 (b:UInt8):([48]:List UInt8).contains b=(b == 48):=by
 rw[List.contains_cons,List.contains_nil,Bool.or_false]
abbrev zP:List AV:=[.bool false,.str [],.int .i64 0]
section
variable {gt:GT}{C:CallT}
theorem digitR_wp {b:UInt8}:wpF gt C F118 [.int .u8 b.toNat] St.init (Ret (.bool (dig b))):=by
 refine⟨rfl,?_⟩;refine goW ?_;by_cases h1:(b.toNat:Int) ≥ 48
 ·rw[dT h1];refine goW ?_;refine⟨_,rfl,?_⟩;rw[show dig b=decide ((b.toNat:Int)<=57) by unfold dig;rw[dT (show 48<=b.toNat by omega),Bool.true_and];congr 1;simp;omega];exact Ret.sta trivial
 ·rw[dF h1];refine goW ?_;refine⟨_,rfl,?_⟩;rw[show dig b=false by unfold dig;rw[dF (show ¬48<=b.toNat by omega),Bool.false_and]];exact Ret.sta trivial
abbrev E_runR (s:List UInt8)(i:Int):Env:=[(0,.val (.str s)),(1,.val (.int .i64 i))]
set_option maxHeartbeats 2000000 in
theorem runR_wp (hm:MonoC C)(hd:∀b:UInt8,PF C 118 [.int .u8 b.toNat] (.bool (dig b))){s:List UInt8}{k:Nat}(hk:k<=s.length)(hl:s.length<4611686018427387904):wpF gt C F117 [.str s,.int .i64 k] St.init (Ret (.int .i64 ((k+runB (s.drop k):Nat):Int))):=by
 refine⟨rfl,?_⟩;refine goW ?_;refine loop_rule hm (α:=Nat) (λi env S'=>i<=s.length/\env=E_runR s i/\S'=St.init/\k+runB (s.drop k)=i+runB (s.drop i)) (λi=>s.length-i) ?_ (a:=k) ⟨hk,rfl,rfl,rfl⟩;rintro i env S' ⟨hi,rfl,rfl,hp⟩;refine goW ?_;by_cases hc:(i:Int)<(s.length:Nat)
 ·rw[dT hc];refine goW ?_;have hik:i<s.length:=by omega
  refine st_any (by exact rfl) (sx_ixS (k:=i) rfl rfl (gE hik)) (goW ?_);refine call_pf hm (by rfl) (hd s[i]) ?_;rw[dC hik]at hp;simp only[runB]at hp;cases hdg:dig s[i] with
  | false =>
   refine goW ?_;refine⟨_,rfl,?_⟩;rw[hdg]at hp;rw[hp];exact Ret.sta trivial
  | true =>
   refine goW ?_;rw[hdg,if_pos rfl]at hp;refine⟨i+1,⟨by omega,?_,rfl,by rw[hp];omega⟩,by omega⟩;rw[wrNat (by omega)]
 ·rw[dF hc];refine goW ?_;refine⟨_,rfl,?_⟩;rw[hp,List.drop_eq_nil_of_le (by omega)];exact Ret.sta trivial
abbrev E_d (s:List UInt8)(e:Int)(d:List UInt8):Env:=[(0,.val (.str s)),(2,.box zP),(12,.val (.int .i64 e)),(14,.val (.str d))]
set_option maxHeartbeats 4000000 in
theorem splitL_wp (hm:MonoC C){s d:List UInt8}{e:Int}{z:Env}{res:Parts3×Int}(hs:s≠[])
  (hf:res=if trimL [48] d=[] then (zeroP,0) else ((hd 45 s,trimL [48] d,e),0)) :
  wpD gt C F92.body.rt.rt.rt.rt.rt.rt.rt.rt.rt.rt.rt.rt.rt.rt.rt.rt.rt.rt.rt.rt.rt ((0,.val (.str s))::(2,.box zP)::(12,.val (.int .i64 e))::(14,.val (.str d))::z) St.init (bodyQ gt F92.res (Ret (encSplit res))):=by
 have ret:∀{o:Parts3×Int} {S:St},res=o->Ret (encSplit res) (.ret (encSplit o)) S:=λh=>by rw[h];exact Ret.sta (sta_split _)
 obtain⟨b0,hb0⟩:=get0 hs;rw[hd_head (c:=45) hb0]at hf
 conv=>whnf
 refine goW ?_;refine loop_rule hm (α:=List UInt8) (λd' env S'=>env=E_d s e d'/\S'=St.init/\trimL [48] d=trimL [48] d') (λd'=>d'.length) ?_ (a:=d) ⟨rfl,rfl,rfl⟩;rintro d' env S' ⟨rfl,rfl,ht2⟩;rw[ht2]at hf;refine goW ?_;cases d' with
 | nil =>
  rw[dF (show ¬((([]:List UInt8).length:Nat):Int) > 0 by simp)];refine goW ?_;exact⟨_,rfl,ret (o:=(zeroP,0)) (by rw[hf,if_pos (show trimL [48] ([]:List UInt8)=[] from rfl)])⟩
 | cons c r =>
  have hcr:(c::r)[0]? = some c:=rfl;have hdr:(c::r).drop 1=r:=rfl;have hlc:(c::r).length=r.length+1:=rfl;rw[trimL_cons,has48]at hf ht2;generalize hd2:c::r=d2 at hcr hdr hlc hf ht2 ⊢;rw[dT (show ((d2.length:Nat):Int) > 0 by omega)];refine goW ?_;refine st_any (by exact rfl) (sx_ixS (k:=0) rfl rfl hcr) (goW ?_);rw[show ((c.toNat:Int) == 48)=(c == 48) from u8_eqI c 48];cases hc:(c == 48) with
  | true =>
   rw[hc,if_pos rfl]at ht2;refine goW ?_;refine step_ruleO (sx_slLo (l:=1) rfl rfl (by omega)) ?_;rw[hdr];refine goW ?_;exact⟨r,⟨rfl,rfl,ht2⟩,by omega⟩
  | false =>
   rw[hc]at hf;simp only[Bool.false_eq_true,if_false]at hf;have hn2:d2≠[]:=λe=>by rw[e]at hlc;simp at hlc
   rw[if_neg hn2]at hf;refine goW ?_;rw[beqB_false hn2];refine goW ?_;refine step_ruleO (sx_ixS (k:=0) rfl rfl hb0) (goW ?_);rw[show ((b0.toNat:Int) == 45)=(b0 == 45) from u8_eqI b0 45];exact⟨_,rfl,ret hf⟩
set_option maxHeartbeats 4000000 in
theorem splitEnd_wp (hm:MonoC C){s w p:List UInt8}{x:Int}{z:Env}{res:Parts3×Int}(hx1:-999999<=x)(hx2:x<=999999)(hs:s≠[])(hl:w.length+p.length<=1000)
  (hf:res=if trimL [48] (trimR [48] (w++p))=[] then (zeroP,0) else ((hd 45 s,trimL [48] (trimR [48] (w++p)),x-p.length+((w++p).length-(trimR [48] (w++p)).length:Nat)),0)) :
  wpD gt C F92.body.rt.rt.rt.rt.rt.rt.rt.rt.rt.rt.rt.rt.rt.rt.rt.rt.rt.rt ((0,.val (.str s))::(2,.box zP)::(6,.val (.str w))::(7,.val (.str p))::(12,.val (.int .i64 x))::z) St.init (bodyQ gt F92.res (Ret (encSplit res))):=by
 conv=>whnf
 refine goW ?_;refine step_ruleO (st_addS rfl rfl (by omega)) (goW ?_);rw[wr64 (n:=x-(p.length:Int)) (by omega) (by omega)];have hl2:(w++p).length=w.length+p.length:=lA;generalize w++p=d0 at hf hl2 ⊢;refine loop_rule hm (α:=List UInt8) (λd env S'=>d.length<=d0.length/\env=E_d s (x-p.length+(d0.length-d.length:Nat)) d/\S'=St.init/\trimR [48] d0=trimR [48] d) (λd=>d.length) ?_ (a:=d0) ⟨nR _,by rw[Nat.sub_self];simp only[E_d];rw[show x-(p.length:Int)+((0:Nat):Int)=x-p.length by omega],rfl,rfl⟩;rintro d env S' ⟨hdl,rfl,rfl,ht⟩;have second:=λ(h:trimR [48] d=d) (z:Env)=>splitL_wp (gt:=gt) (d:=d) (e:=x-p.length+(d0.length-d.length:Nat)) (z:=z) hm hs (res:=res) (by rw[hf,ht,h]);refine goW ?_;rcases List.eq_nil_or_concat d with rfl | ⟨q,b,rfl⟩
 ·rw[dF (show ¬((([]:List UInt8).length:Nat):Int) > 0 by simp)];refine goK ?_
  with_unfolding_all exact second rfl _
 rw[List.concat_eq_append]at *;have hlq:(q++[b]).length=q.length+1:=by rw[lA];rfl
 have hlast:(q++[b])[q.length]? = some b:=by rw[List.getElem?_append_right (nR _),Nat.sub_self];rfl
 rw[trimR_snoc,has48]at ht second;have htk:(q++[b]).take q.length=q:=by simp
 generalize hd':q++[b]=d at hdl hlq hlast htk ht second ⊢;rw[dT (show ((d.length:Nat):Int) > 0 by omega)];refine goW ?_;rw[show wr .i64 ((d.length:Int)-1)=((q.length:Nat):Int) by rw[wr64 (by omega) (by omega)];omega];refine st_any (by exact rfl) (sx_ixS (k:=q.length) rfl rfl hlast) (goW ?_);rw[show ((b.toNat:Int) == 48)=(b == 48) from u8_eqI b 48];cases hb:(b == 48) with
 | true =>
  rw[hb,if_pos rfl]at ht;refine goW ?_;rw[show wr .i64 ((d.length:Int)-1)=((q.length:Nat):Int) by rw[wr64 (by omega) (by omega)];omega];refine step_ruleO (sx_slHiS (h:=q.length) rfl rfl (by omega)) ?_;rw[htk];refine goW ?_;refine⟨q,⟨by omega,?_,rfl,ht⟩,by omega⟩;simp only[E_d];rw[wr64 (by omega) (by omega),show x-(p.length:Int)+((d0.length-d.length:Nat):Int)+1=x-p.length+((d0.length-q.length:Nat):Int) by omega]
  try rfl
 | false =>
  rw[hb]at second;refine goK ?_
  with_unfolding_all exact second rfl _
end

def finS (s w p:List UInt8)(x:Int):Parts3×Int :=
 if trimL [48] (trimR [48] (w++p))=[] then (zeroP,0) else ((hd 45 s,trimL [48] (trimR [48] (w++p)),x-p.length+((w++p).length-(trimR [48] (w++p)).length:Nat)),0)
section
variable {gt:GT}{C:CallT}
abbrev E_val (s w p ex:List UInt8)(neg:Bool)(a i:Int):Env:=[(0,.val (.str s)),(2,.box zP),(6,.val (.str w)),(7,.val (.str p)),(9,.val (.str ex)),(10,.val (.bool neg)),(12,.val (.int .i64 a)),(13,.val (.int .i64 i))]
set_option maxHeartbeats 4000000 in
theorem splitVal_wp (hm:MonoC C){s w p ex:List UInt8}{neg:Bool}{z:Env}{res:Parts3×Int}(hs:s≠[])(hl:w.length+p.length<=1000)(hel:ex.length<4611686018427387904)(hd':ex.all dig=true)
  (hf:res=if 6<ex.length then (zeroP,5) else finS s w p (if neg=true then -(valB 0 ex:Int) else valB 0 ex)) :
  wpD gt C F92.body.rt.rt.rt.rt.rt.rt.rt.rt.rt.rt.rt.rt.rt.rt ((0,.val (.str s))::(2,.box zP)::(6,.val (.str w))::(7,.val (.str p))::(9,.val (.str ex))::(10,.val (.bool neg))::z) St.init (bodyQ gt F92.res (Ret (encSplit res))):=by
 have ret:∀{o:Parts3×Int} {S:St},res=o->Ret (encSplit res) (.ret (encSplit o)) S:=λh=>by rw[h];exact Ret.sta (sta_split _)
 conv=>whnf
 refine goW ?_;by_cases h6:(ex.length:Int) > 6
 ·rw[dT h6];refine goW ?_;exact⟨_,rfl,ret (o:=(zeroP,5)) (by rw[hf,if_pos (by omega)])⟩
 rw[dF h6];rw[if_neg (by omega)]at hf;refine goW ?_;refine loop_rule hm (α:=Nat×Nat) (λa env S'=>a.1<=ex.length/\a.2<10 ^ a.1/\env=E_val s w p ex neg a.2 a.1/\S'=St.init/\valB 0 ex=valB a.2 (ex.drop a.1)) (λa=>ex.length-a.1) ?_ (a:=(0,0)) ⟨Nat.zero_le _,by decide,rfl,rfl,rfl⟩;rintro⟨i,a⟩ env S' ⟨hi,ha,rfl,rfl,hv⟩;simp only at hi ha hv;have hp:10 ^ i<=10 ^ 6:=Nat.pow_le_pow_right (by decide) (by omega);have h10:(10:Nat) ^ 6=1000000:=by decide
 refine goW ?_;by_cases hc:(i:Int)<(ex.length:Nat)
 ·rw[dT hc];refine goW ?_;have hik:i<ex.length:=by omega
  refine step_ruleO (sx_ixS (k:=i) rfl rfl (gE hik)) ?_;rw[dC hik]at hv;have hdi:dig ex[i]=true:=List.all_eq_true.1 hd' _ (List.getElem_mem hik);generalize ex[i]=b at hv hdi ⊢;have hb:48<=b.toNat/\b.toNat<=57:=by simpa only[dig,bA,decide_eq_true_eq] using hdi
  refine goW ?_;refine⟨(i+1,a*10+(b.toNat-48)),⟨by simp only;omega,by simp only;rw[pow1];omega,?_,rfl,hv⟩,by simp only;omega⟩;simp only[E_val];rw[wrNat (by omega),wr8 (n:=(b.toNat:Int)-48) (by omega) (by omega),wr64 (n:=(b.toNat:Int)-48) (by omega) (by omega),wr64 (n:=(a:Int)*10) (by omega) (by omega),wr64 (n:=(a:Int)*10+((b.toNat:Int)-48)) (by omega) (by omega),
   show (a:Int)*10+((b.toNat:Int)-48)=((a*10+(b.toNat-48):Nat):Int) by omega]
  try rfl
 ·have hil:ex.length<=i:=by omega
  rw[List.drop_eq_nil_of_le hil]at hv;have hv2:valB 0 ex=a:=hv;rw[hv2]at hf
  clear hv2
  rw[dF hc];have b1:-999999<=(a:Int)/\(a:Int)<=999999:=⟨by omega,by omega⟩
  have b2:-999999<=-(a:Int)/\-(a:Int)<=999999:=⟨by omega,by omega⟩
  clear hp h10 ha hv
  refine goW ?_;cases neg with
  | false =>
   simp only[Bool.false_eq_true,if_false]at hf;refine goK ?_
   with_unfolding_all exact splitEnd_wp (gt:=gt) hm (x:=a) b1.1 b1.2 hs hl hf
  | true =>
   simp only[if_true]at hf;have e:wr .i64 (0-(a:Int))=-(a:Int):=by rw[wr64 (by omega) (by omega)];omega
   rw[<-e]at hf b2;refine goK ?_
   with_unfolding_all exact splitEnd_wp (gt:=gt) hm (x:=wr .i64 (0-(a:Int))) b2.1 b2.2 hs hl hf
end

def outS (s:List UInt8):Option Cut4->Parts3×Int
 | none=>(zeroP,12)
 | some (_,w,p,e)=>if 1000<s.length then (zeroP,2) else match expB e with
  | none=>(zeroP,5)
  | some x=>finS s w p x
def valS (s w p ex:List UInt8)(neg:Bool):Parts3×Int :=
 if 6<(trimL [48] ex).length then (zeroP,5) else finS s w p (if neg=true then -(valB 0 (trimL [48] ex):Int) else valB 0 (trimL [48] ex))
theorem expD_T {e:List UInt8}(h:(expD e).all dig=true):expT e=trimL [48] (expD e):=by
 unfold expT
 congr 1
 have key:∀l:List UInt8,l.all dig=true->trimL [43,45] l=l:=λl hl=>by
  cases l with
  | nil=>rfl
  | cons b r =>
   rw[trimL_cons];simp only[List.all_cons,bA]at hl;rw[dig_noSign hl.1];rfl
 unfold expD at h ⊢;cases e with
 | nil=>rfl
 | cons b r =>
  by_cases h1:hd 45 (b::r)=true
  ·rw[if_pos h1]at h ⊢;have:b=45:=by simpa[hd] using h1
   subst this;rw[trimL_cons,if_pos (by decide)];exact key r h
  ·rw[if_neg h1]at h ⊢;by_cases h2:hd 43 (b::r)=true
   ·rw[if_pos h2]at h ⊢;have:b=43:=by simpa[hd] using h2
    subst this;rw[trimL_cons,if_pos (by decide)];exact key r h
   ·rw[if_neg h2]at h ⊢;exact key (b::r) h
theorem outS_some {s w p e:List UInt8}{n:Bool}(h:(expD e).all dig=true):outS s (some (n,w,p,e))=if 1000<s.length then (zeroP,2) else valS s w p (expD e) (hd 45 e):=by
 simp only[outS];split
 ·rfl
 ·unfold expB valS;rw[expD_T h];by_cases h6:6<(trimL [48] (expD e)).length
  ·rw[if_pos h6,if_pos h6]
  ·rw[if_neg h6,if_neg h6]
section
variable {gt:GT}{C:CallT}
abbrev E_ex (s w p ex:List UInt8)(neg:Bool):Env:=[(0,.val (.str s)),(2,.box zP),(6,.val (.str w)),(7,.val (.str p)),(9,.val (.str ex)),(10,.val (.bool neg))]
set_option maxHeartbeats 4000000 in
theorem splitZ_wp (hm:MonoC C){s w p ex:List UInt8}{neg:Bool}{z:Env}{res:Parts3×Int}(hs:s≠[])(hl:w.length+p.length<=1000)(hel:ex.length<4611686018427387904)(hd':ex.all dig=true)
  (hf:res=valS s w p ex neg) :
  wpD gt C F92.body.rt.rt.rt.rt.rt.rt.rt.rt.rt.rt.rt.rt.rt ((0,.val (.str s))::(2,.box zP)::(6,.val (.str w))::(7,.val (.str p))::(9,.val (.str ex))::(10,.val (.bool neg))::z) St.init (bodyQ gt F92.res (Ret (encSplit res))):=by
 unfold valS at hf
 conv=>whnf
 refine goW ?_;refine loop_rule hm (α:=List UInt8) (λx env S'=>env=E_ex s w p x neg/\S'=St.init/\trimL [48] ex=trimL [48] x/\x.all dig=true/\x.length<4611686018427387904) (λx=>x.length) ?_ (a:=ex) ⟨rfl,rfl,rfl,hd',hel⟩;rintro x env S' ⟨rfl,rfl,ht,hxd,hxl⟩;rw[ht]at hf;have fin:=λ(h:trimL [48] x=x) (z:Env)=>splitVal_wp (gt:=gt) (z:=z) (res:=res) hm hs hl hxl hxd (by rw[hf,h]);refine goW ?_;cases x with
 | nil =>
  rw[dF (show ¬((([]:List UInt8).length:Nat):Int) > 0 by simp)];refine goK ?_
  with_unfolding_all exact fin rfl _
 | cons c r =>
  have hcr:(c::r)[0]? = some c:=rfl;have hdr:(c::r).drop 1=r:=rfl;have hlc:(c::r).length=r.length+1:=rfl;have hrd:r.all dig=true:=by simp only[List.all_cons,bA]at hxd;exact hxd.2
  rw[trimL_cons,has48]at ht fin;generalize hd2:c::r=d2 at hcr hdr hlc ht fin hxl ⊢;rw[dT (show ((d2.length:Nat):Int) > 0 by omega)];refine goW ?_;refine st_any (by exact rfl) (sx_ixS (k:=0) rfl rfl hcr) (goW ?_);rw[show ((c.toNat:Int) == 48)=(c == 48) from u8_eqI c 48];cases hc:(c == 48) with
  | true =>
   rw[hc,if_pos rfl]at ht;refine goW ?_;refine step_ruleO (sx_slLo (l:=1) rfl rfl (by omega)) ?_;rw[hdr];refine goW ?_;exact⟨r,⟨rfl,rfl,ht,hrd,by omega⟩,by omega⟩
  | false =>
   rw[hc]at fin;refine goK ?_
   with_unfolding_all exact fin rfl _
set_option maxHeartbeats 4000000 in
theorem splitLen_wp (hm:MonoC C){s w p ex:List UInt8}{neg:Bool}{a:Nat}{z:Env}{res:Parts3×Int}(hs:s≠[])(hsl:s.length<4611686018427387904)(hl:w.length+p.length<=s.length)(hel:ex.length<=s.length)(hd':ex.all dig=true)
  (hf:res=if a=s.length then (if 1000<s.length then (zeroP,2) else valS s w p ex neg) else (zeroP,12)) :
  wpD gt C F92.body.rt.rt.rt.rt.rt.rt.rt.rt.rt.rt.rt ((0,.val (.str s))::(2,.box zP)::(5,.val (.int .i64 a))::(6,.val (.str w))::(7,.val (.str p))::(9,.val (.str ex))::(10,.val (.bool neg))::z) St.init (bodyQ gt F92.res (Ret (encSplit res))):=by
 have ret:∀{o:Parts3×Int} {S:St},res=o->Ret (encSplit res) (.ret (encSplit o)) S:=λh=>by rw[h];exact Ret.sta (sta_split _)
 conv=>whnf
 refine goW ?_;by_cases ha:a=s.length
 case neg =>
  rw[neI_true (show ¬(a:Int)=s.length by omega)];refine goW ?_;exact⟨_,rfl,ret (o:=(zeroP,12)) (by rw[hf,if_neg ha])⟩
 rw[neI_false (show (a:Int)=s.length by omega)];rw[if_pos ha]at hf;refine goW ?_;by_cases h1:(s.length:Int) > 1000
 ·rw[dT h1];refine goW ?_;exact⟨_,rfl,ret (o:=(zeroP,2)) (by rw[hf,if_pos (by omega)])⟩
 rw[dF h1];rw[if_neg (by omega)]at hf;have fin:=λz=>splitZ_wp (gt:=gt) (z:=z) hm hs (by omega) (by omega) hd' hf;refine goK ?_
 with_unfolding_all exact fin _
end

def DC.lf:DC->DC |.seq a _=>a | c=>c
def DC.th:DC->DC |.cnd _ a _=>a | c=>c
theorem hd_drop {c:UInt8}{s:List UInt8}{a:Nat}(h:a<s.length):hd c (s.drop a)=(s[a] == c):=by
 rw[dC h];rfl
theorem hd_drop_end {c:UInt8}{s:List UInt8}{a:Nat}(h:¬a<s.length):hd c (s.drop a)=false:=by
 rw[List.drop_eq_nil_of_le (by omega)];rfl
theorem runB_take:∀s:List UInt8,(s.take (runB s)).all dig=true
 | []=>rfl
 | b::r=>by
  simp only[runB];split
  ·rename_i h;rw[List.take_succ_cons,List.all_cons,h,runB_take r];rfl
  ·rfl
section
variable {gt:GT}{C:CallT}
abbrev E_p (s w p ex:List UInt8)(neg:Bool)(a:Nat):Env:=[(0,.val (.str s)),(2,.box zP),(5,.val (.int .i64 a)),(6,.val (.str w)),(7,.val (.str p)),(9,.val (.str ex)),(10,.val (.bool neg))]
set_option maxHeartbeats 8000000 in
theorem expRun_wp (hm:MonoC C)(hrun:∀(s:List UInt8) (k:Nat),k<=s.length->s.length<4611686018427387904->PF C 117 [.str s,.int .i64 k] (.int .i64 ((k+runB (s.drop k):Nat):Int)))
  {s w p:List UInt8} {neg:Bool} {a:Nat} {z:Env} {Q:Ex->Env->St->Prop} (hsl:s.length<4611686018427387904) (ha:a<=s.length)
  (h0:runB (s.drop a)=0->Q .ret [(2,.box zP),(3,.val (.int .i64 12))] St.init) (h1:runB (s.drop a)≠0->Q .normal (E_p s w p ((s.drop a).take (runB (s.drop a))) neg (a+runB (s.drop a))) St.init) :
  wpD gt C F92.body.rt.rt.rt.rt.rt.rt.rt.rt.rt.rt.lf.rt.th.rt.rt ((0,.val (.str s))::(2,.box zP)::(5,.val (.int .i64 a))::(6,.val (.str w))::(7,.val (.str p))::(10,.val (.bool neg))::z) St.init Q:=by
 have hrun:=hrun s a ha hsl;have hle:=runB_le (s.drop a);rw[lD]at hle;generalize hr:runB (s.drop a)=r at hrun h0 h1 hle
 conv=>whnf
 refine goW ?_;refine call_pf hm (by rfl) hrun (goW ?_);by_cases hz:r=0
 ·rw[eqI_true (show ((a+r:Nat):Int)=a by omega)];refine goW ?_;exact h0 hz
 rw[eqI_false (show ¬((a+r:Nat):Int)=a by omega)];refine goW ?_;refine step_ruleO (sx_slLH (l:=a) (h:=a+r) rfl rfl rfl (by omega) (by omega)) ?_;rw[show ((s.drop a).take (a+r-a))=(s.drop a).take r by rw[Nat.add_sub_cancel_left]];refine goW ?_;exact h1 hz
set_option maxHeartbeats 8000000 in
theorem expIn_wp (hm:MonoC C)(hrun:∀(s:List UInt8) (k:Nat),k<=s.length->s.length<4611686018427387904->PF C 117 [.str s,.int .i64 k] (.int .i64 ((k+runB (s.drop k):Nat):Int)))
  {s w p x:List UInt8} {a:Nat} {z:Env} {Q:Ex->Env->St->Prop} (hsl:s.length<4611686018427387904) (ha:a<s.length)
  (h:∀pos,pos<=s.length->s.drop pos=expD (s.drop (a+1))->(runB (s.drop pos)=0->Q .ret [(2,.box zP),(3,.val (.int .i64 12))] St.init) /\
   (runB (s.drop pos)≠0->Q .normal (E_p s w p ((s.drop pos).take (runB (s.drop pos))) (hd 45 (s.drop (a+1))) (pos+runB (s.drop pos))) St.init)) :
  wpD gt C F92.body.rt.rt.rt.rt.rt.rt.rt.rt.rt.rt.lf.rt.th ((0,.val (.str s))::(2,.box zP)::(5,.val (.int .i64 a))::(6,.val (.str w))::(7,.val (.str p))::(9,.val (.str x))::(10,.val (.bool false))::z) St.init Q:=by
 conv=>whnf
 refine goW ?_;rw[wrNat (by omega)];by_cases hc:(((a+1:Nat):Int))<(s.length:Nat)
 case neg =>
  have hd0:s.drop (a+1)=[]:=List.drop_eq_nil_of_le (by omega);obtain⟨q1,q2⟩:=h (a+1) (by omega) (by rw[hd0];rfl);rw[show hd 45 (s.drop (a+1))=false by rw[hd0];rfl]at q2;rw[dF hc];refine goK ?_
  with_unfolding_all exact expRun_wp (gt:=gt) hm hrun hsl (by omega) q1 q2
 have hik:a+1<s.length:=by omega
 have hget:s[a+1]? = some s[a+1]:=gE hik;have hdd:s.drop (a+1)=s[a+1]::s.drop (a+2):=dC hik;have e45:hd 45 (s.drop (a+1))=(s[a+1] == 45):=by rw[hdd];rfl
 have e43:hd 43 (s.drop (a+1))=(s[a+1] == 43):=by rw[hdd];rfl
 have hexp:expD (s.drop (a+1))=if (s[a+1] == 45)=true then s.drop (a+2) else if (s[a+1] == 43)=true then s.drop (a+2) else s.drop (a+1):=by
  unfold expD;rw[e45,e43,List.drop_drop]
 rw[hexp]at h;rw[e45]at h
 clear hdd e45 e43 hexp
 generalize s[a+1]=b at hget h;rw[dT hc];refine goW ?_;refine st_any (by exact rfl) (sx_ixS (k:=a+1) rfl rfl hget) (goW ?_);rw[show ((b.toNat:Int) == 43)=(b == 43) from u8_eqI b 43];cases h43:(b == 43) with
 | true =>
  have h45:(b == 45)=false:=by
   rw[beq_iff_eq]at h43;subst h43;decide
  rw[h43,h45]at h;simp only[Bool.false_eq_true,if_false,if_true]at h;obtain⟨q1,q2⟩:=h (a+2) (by omega) rfl;refine goW ?_;refine step_ruleO (sx_ixS (k:=a+1) rfl rfl hget) (goW ?_);rw[show ((b.toNat:Int) == 45)=(b == 45) from u8_eqI b 45,h45,show wr .i64 (((a+1:Nat):Int)+1)=((a+2:Nat):Int) from wrNat (by omega)];refine goK ?_
  with_unfolding_all exact expRun_wp (gt:=gt) hm hrun hsl (by omega) q1 q2
 | false =>
  refine goW ?_;refine st_any (by exact rfl) (sx_ixS (k:=a+1) rfl rfl hget) (goW ?_);rw[show ((b.toNat:Int) == 45)=(b == 45) from u8_eqI b 45];cases h45:(b == 45) with
  | true =>
   rw[h45]at h;simp only[if_true]at h;obtain⟨q1,q2⟩:=h (a+2) (by omega) rfl;refine goW ?_;refine step_ruleO (sx_ixS (k:=a+1) rfl rfl hget) (goW ?_);rw[show ((b.toNat:Int) == 45)=(b == 45) from u8_eqI b 45,h45,show wr .i64 (((a+1:Nat):Int)+1)=((a+2:Nat):Int) from wrNat (by omega)];refine goK ?_
   with_unfolding_all exact expRun_wp (gt:=gt) hm hrun hsl (by omega) q1 q2
  | false =>
   rw[h43,h45]at h;simp only[Bool.false_eq_true,if_false]at h;obtain⟨q1,q2⟩:=h (a+1) (by omega) rfl;refine goK ?_
   with_unfolding_all exact expRun_wp (gt:=gt) hm hrun hsl (by omega) q1 q2
end

section
variable {gt:GT}{C:CallT}
set_option maxHeartbeats 8000000 in
theorem splitE_wp (hm:MonoC C)(hrun:∀(s:List UInt8) (k:Nat),k<=s.length->s.length<4611686018427387904->PF C 117 [.str s,.int .i64 k] (.int .i64 ((k+runB (s.drop k):Nat):Int)))
  {s w p:List UInt8} {n:Bool} {a:Nat} {z:Env} {res:Parts3×Int} (hs:s≠[]) (hsl:s.length<4611686018427387904) (ha:a<=s.length) (hl:w.length+p.length<=s.length)
  (hf:res=outS s (cutE n w p (s.drop a))) :
  wpD gt C F92.body.rt.rt.rt.rt.rt.rt.rt.rt ((0,.val (.str s))::(2,.box zP)::(5,.val (.int .i64 a))::(6,.val (.str w))::(7,.val (.str p))::z) St.init (bodyQ gt F92.res (Ret (encSplit res))):=by
 unfold cutE at hf
 conv=>whnf
 refine goW ?_;by_cases hc:(a:Int)<(s.length:Nat)
 case neg =>
  rw[dF hc];have hd0:s.drop a=[]:=List.drop_eq_nil_of_le (by omega);rw[hd0,if_pos rfl,outS_some (show (expD []).all dig=true from rfl)]at hf;have hae:a=s.length:=by omega
  have fin:=λz=>splitLen_wp (gt:=gt) (z:=z) (a:=a) (ex:=[]) (neg:=false) (res:=res) hm hs hsl hl (by simp) rfl (by rw[hf,if_pos hae];rfl);refine goK ?_
  with_unfolding_all exact fin _
 have hik:a<s.length:=by omega
 have hdr:s.drop a=s[a]::s.drop (a+1):=dC hik;have hget:s[a]? = some s[a]:=gE hik;generalize s[a]=b at hdr hget;rw[hdr,if_neg (show ¬b::s.drop (a+1)=[] by simp),show (b::s.drop (a+1)).drop 1=s.drop (a+1) from rfl,show hd 101 (b::s.drop (a+1))=(b == 101) from rfl,show hd 69 (b::s.drop (a+1))=(b == 69) from rfl]at hf
 clear hdr
 have hne:¬a=s.length:=by omega
 have notE:=λ(h:res=(zeroP,12)) (z:Env)=>splitLen_wp (gt:=gt) (z:=z) (a:=a) (ex:=[]) (neg:=false) (res:=res) hm hs hsl hl (by simp) rfl (by rw[h,if_neg hne]);have isE:((b == 101)=true\/(b == 69)=true)->∀pos,pos<=s.length->s.drop pos=expD (s.drop (a+1))->(runB (s.drop pos)=0->res=(zeroP,12)) /\
   (runB (s.drop pos)≠0->∀z,wpD gt C F92.body.rt.rt.rt.rt.rt.rt.rt.rt.rt.rt.rt ((0,.val (.str s))::(2,.box zP)::(5,.val (.int .i64 ((pos+runB (s.drop pos):Nat):Int)))::(6,.val (.str w))::(7,.val (.str p))::(9,.val (.str ((s.drop pos).take (runB (s.drop pos)))))::(10,.val (.bool (hd 45 (s.drop (a+1)))))::z) St.init (bodyQ gt F92.res (Ret (encSplit res)))):=λhb pos hp he=>by
  have hle:=runB_le (s.drop pos);rw[if_neg (by rintro⟨h1,h2⟩;rcases hb with h | h;rw[h]at h1;cases h1;rw[h]at h2;cases h2)]at hf;rw[<-he]at hf;refine⟨λh0=>?_,λh0 z=>?_⟩
  ·rw[hf,if_pos ?_];rfl;cases hq:s.drop pos with
   | nil=>exact .inl rfl
   | cons c q=>right;rw[<-hq,h0,hq];simp
  ·have hne2:s.drop pos≠[]:=λe=>by rw[e]at h0;exact h0 rfl
   have hdl:(s.drop pos).length=s.length-pos:=lD;refine splitLen_wp (gt:=gt) (z:=z) (res:=res) hm hs hsl hl (by rw[lT];omega) (runB_take _) ?_;by_cases hf2:runB (s.drop pos)<(s.drop pos).length
   ·rw[if_pos (.inr hf2)]at hf;rw[hf,if_neg (show ¬pos+runB (s.drop pos)=s.length by omega)];rfl
   ·rw[if_neg (by rintro (h | h);exact hne2 h;exact hf2 h)]at hf;have hall:=runB_all hf2;rw[hf,if_pos (show pos+runB (s.drop pos)=s.length by omega),List.take_of_length_le (by omega),outS_some (by rw[<-he];exact hall),<-he]
 rw[dT hc];refine goW ?_;refine st_any (by exact rfl) (sx_ixS (k:=a) rfl rfl hget) (goW ?_);rw[show ((b.toNat:Int) == 101)=(b == 101) from u8_eqI b 101];cases h1:(b == 101) with
 | true =>
  have isE:=isE (.inl h1);refine goK ?_
  with_unfolding_all refine expIn_wp (gt:=gt) hm hrun hsl hik ?_
  intro pos hp he;obtain⟨i1,i2⟩:=isE pos hp he;refine⟨λh0=>?_,λh0=>?_⟩
  ·rw[i1 h0];exact⟨_,rfl,Ret.sta (sta_split (zeroP,12))⟩
  ·with_unfolding_all exact i2 h0 _
 | false =>
  refine goW ?_;refine st_any (by exact rfl) (sx_ixS (k:=a) rfl rfl hget) (goW ?_);rw[show ((b.toNat:Int) == 69)=(b == 69) from u8_eqI b 69];cases h2:(b == 69) with
  | true =>
   have isE:=isE (.inr h2);refine goK ?_
   with_unfolding_all refine expIn_wp (gt:=gt) hm hrun hsl hik ?_
   intro pos hp he;obtain⟨i1,i2⟩:=isE pos hp he;refine⟨λh0=>?_,λh0=>?_⟩
   ·rw[i1 h0];exact⟨_,rfl,Ret.sta (sta_split (zeroP,12))⟩
   ·with_unfolding_all exact i2 h0 _
  | false =>
   rw[h1,h2,if_pos ⟨rfl,rfl⟩]at hf;have notE:=notE hf;refine goK ?_
   with_unfolding_all exact notE _
end

theorem cutE_neg {m n:Bool}{w p q w' p' e:List UInt8}(h:cutE m w p q=some (n,w',p',e)):n=m:=by
 unfold cutE at h;split at h
 ·simp only[oI,Prod.mk.injEq]at h;exact h.1.symm
 ·split at h
  ·cases h
  ·split at h
   ·cases h
   ·simp only[oI,Prod.mk.injEq]at h;exact h.1.symm
theorem cutP_neg {m n:Bool}{q w p e:List UInt8}(h:cutP m q=some (n,w,p,e)):n=m:=by
 unfold cutP at h;split at h
 ·cases h
 ·split at h
  ·split at h
   ·cases h
   ·exact cutE_neg h
  ·exact cutE_neg h
theorem split_outS (s:List UInt8):splitB s=outS s (cutB s):=by
 unfold splitB outS;have hn:∀n w p e,cutB s=some (n,w,p,e)->n=hd 45 s:=λn w p e h=>by
  unfold cutB at h;split at h
  ·rename_i hh;rw[cutP_neg h,hh]
  ·rename_i hh;rw[cutP_neg h];simp only[Bool.not_eq_true]at hh;rw[hh]
 cases hc:cutB s with
 | none=>rfl
 | some q =>
  obtain⟨n,w,p,e⟩:=q;simp only;rw[hn n w p e hc];split
  ·rfl
  ·cases expB e with
   | none=>rfl
   | some x =>
    simp only[finS];obtain⟨h1,h2⟩:=trim_comm [48] (w++p);rw[h1];by_cases hz:trimR [48] (trimL [48] (w++p))=[]
    ·rw[if_pos hz,if_pos hz]
    ·rw[if_neg hz,if_neg hz];have h2:=h2 hz;have t1:=trimR_le [48] (trimL [48] (w++p));rw[h2]
     congr 3
     omega
section
variable {gt:GT}{C:CallT}
set_option maxHeartbeats 8000000 in
theorem splitDot_wp (hm:MonoC C)(hrun:∀(s:List UInt8) (k:Nat),k<=s.length->s.length<4611686018427387904->PF C 117 [.str s,.int .i64 k] (.int .i64 ((k+runB (s.drop k):Nat):Int)))
  {s w:List UInt8} {n:Bool} {a:Nat} {z:Env} {res:Parts3×Int} (hs:s≠[]) (hsl:s.length<4611686018427387904) (ha:a<=s.length) (hl:w.length<=a)
  (hf:res=outS s (if hd 46 (s.drop a)=true then (if runB (s.drop (a+1))=0 then none else cutE n w ((s.drop (a+1)).take (runB (s.drop (a+1)))) (s.drop (a+1+runB (s.drop (a+1))))) else cutE n w [] (s.drop a))) :
  wpD gt C F92.body.rt.rt.rt.rt.rt.rt.rt ((0,.val (.str s))::(2,.box zP)::(5,.val (.int .i64 a))::(6,.val (.str w))::(7,.val (.str []))::z) St.init (bodyQ gt F92.res (Ret (encSplit res))):=by
 have ret:∀{o:Parts3×Int} {S:St},res=o->Ret (encSplit res) (.ret (encSplit o)) S:=λh=>by rw[h];exact Ret.sta (sta_split _)
 conv=>whnf
 refine goW ?_;by_cases hc:(a:Int)<(s.length:Nat)
 case neg =>
  rw[hd_drop_end (by omega),if_neg (by simp)]at hf;have fin:=λ(z:Env)=>splitE_wp (gt:=gt) (z:=z) hm hrun hs hsl ha (by simp only[lN];omega) hf;rw[dF hc];refine goK ?_
  with_unfolding_all exact fin []
 have hik:a<s.length:=by omega
 have hget:s[a]? = some s[a]:=gE hik;rw[hd_drop hik]at hf;generalize s[a]=b at hf hget;rw[dT hc];refine goW ?_;refine st_any (by exact rfl) (sx_ixS (k:=a) rfl rfl hget) (goW ?_);rw[show ((b.toNat:Int) == 46)=(b == 46) from u8_eqI b 46];cases h46:(b == 46) with
 | false =>
  rw[h46,if_neg (by simp)]at hf;have fin:=λ(z:Env)=>splitE_wp (gt:=gt) (z:=z) hm hrun hs hsl ha (by simp only[lN];omega) hf;refine goK ?_
  with_unfolding_all exact fin []
 | true =>
  rw[h46,if_pos rfl]at hf;have hrun:=hrun;have hr1:=hrun s (a+1) (by omega) hsl;have hle:=runB_le (s.drop (a+1));rw[lD]at hle;generalize hr:runB (s.drop (a+1))=r at hr1 hf hle;refine goW ?_;rw[wrNat (by omega)];refine call_pf hm (by rfl) hr1 (goW ?_);rw[wrNat (by omega)];by_cases hz:r=0
  ·rw[eqI_true (show ((a+1+r:Nat):Int)=((a+1:Nat):Int) by omega)];rw[if_pos hz]at hf;refine goW ?_;exact⟨_,rfl,ret (o:=(zeroP,12)) hf⟩
  rw[eqI_false (show ¬((a+1+r:Nat):Int)=((a+1:Nat):Int) by omega)];rw[if_neg hz]at hf;have fin:=λ(z:Env)=>splitE_wp (gt:=gt) (z:=z) hm hrun hs hsl (by omega) (by rw[lT,lD];omega) hf;refine goW ?_;rw[wrNat (by omega)];refine step_ruleO (sx_slLH (l:=a+1) (h:=a+1+r) rfl rfl rfl (by omega) (by omega)) ?_;rw[show ((s.drop (a+1)).take (a+1+r-(a+1)))=(s.drop (a+1)).take r by rw[Nat.add_sub_cancel_left]];refine goK ?_
  with_unfolding_all exact fin []
end

section
variable {gt:GT}{C:CallT}
set_option maxHeartbeats 8000000 in
theorem splitRun_wp (hm:MonoC C)(hrun:∀(s:List UInt8) (k:Nat),k<=s.length->s.length<4611686018427387904->PF C 117 [.str s,.int .i64 k] (.int .i64 ((k+runB (s.drop k):Nat):Int)))
  {s:List UInt8} {n:Bool} {i:Nat} {z:Env} {res:Parts3×Int} (hsl:s.length<4611686018427387904) (hi:i<=s.length)
  (hf:res=outS s (cutP n (s.drop i))) :
  wpD gt C F92.body.rt.rt.rt ((0,.val (.str s))::(2,.box zP)::(4,.val (.int .i64 i))::z) St.init (bodyQ gt F92.res (Ret (encSplit res))):=by
 have ret:∀{o:Parts3×Int} {S:St},res=o->Ret (encSplit res) (.ret (encSplit o)) S:=λh=>by rw[h];exact Ret.sta (sta_split _)
 have hr1:=hrun s i hi hsl;have hle:=runB_le (s.drop i);rw[lD]at hle;unfold cutP at hf;rw[List.drop_drop,List.drop_drop,List.drop_drop]at hf;generalize hr:runB (s.drop i)=r at hr1 hf hle
 conv=>whnf
 refine goW ?_;refine call_pf hm (by rfl) hr1 (goW ?_);by_cases hz:r=0
 ·rw[eqI_true (show ((i+r:Nat):Int)=i by omega)];rw[if_pos (.inl hz)]at hf;refine goW ?_;exact⟨_,rfl,ret (o:=(zeroP,12)) hf⟩
 rw[eqI_false (show ¬((i+r:Nat):Int)=i by omega)];have hik:i<s.length:=by omega
 have hs:s≠[]:=λe=>by rw[e]at hik;simp at hik
 have hget:s[i]? = some s[i]:=gE hik;rw[hd_drop hik]at hf;generalize s[i]=b at hf hget;refine goW ?_;refine st_any (by exact rfl) (sx_ixS (k:=i) rfl rfl hget) (goW ?_);rw[show ((b.toNat:Int) == 48)=(b == 48) from u8_eqI b 48];have dot:¬(1<r/\(b == 48)=true)->∀z,wpD gt C F92.body.rt.rt.rt.rt.rt.rt.rt ((0,.val (.str s))::(2,.box zP)::(5,.val (.int .i64 ((i+r:Nat):Int)))::(6,.val (.str ((s.drop i).take r)))::(7,.val (.str []))::z) St.init (bodyQ gt F92.res (Ret (encSplit res))):=λh z=>by
  rw[if_neg (by rintro (h' | h');exact hz h';exact h h')]at hf;refine splitDot_wp (n:=n) hm hrun hs hsl (by omega) (by rw[lT];omega) ?_;rw[hf];simp only[Nat.add_assoc]
 cases h48:(b == 48) with
 | true =>
  refine goW ?_;rw[wrNat (by omega)];by_cases h1:((i+r:Nat):Int) > ((i+1:Nat):Int)
  ·rw[dT h1];rw[if_pos (.inr ⟨by omega,h48⟩)]at hf;refine goW ?_;exact⟨_,rfl,ret (o:=(zeroP,12)) hf⟩
  ·rw[dF h1];have dot:=dot (λh=>by omega);refine goW ?_;refine step_ruleO (sx_slLH (l:=i) (h:=i+r) rfl rfl rfl (by omega) (by omega)) ?_;rw[show ((s.drop i).take (i+r-i))=(s.drop i).take r by rw[Nat.add_sub_cancel_left]];refine goK ?_
   with_unfolding_all exact dot []
 | false =>
  have dot:=dot (λh=>by rw[h48]at h;cases h.2);refine goW ?_;refine step_ruleO (sx_slLH (l:=i) (h:=i+r) rfl rfl rfl (by omega) (by omega)) ?_;rw[show ((s.drop i).take (i+r-i))=(s.drop i).take r by rw[Nat.add_sub_cancel_left]];refine goK ?_
  with_unfolding_all exact dot []
set_option maxHeartbeats 8000000 in
theorem splitR_wp (hm:MonoC C)(hrun:∀(s:List UInt8) (k:Nat),k<=s.length->s.length<4611686018427387904->PF C 117 [.str s,.int .i64 k] (.int .i64 ((k+runB (s.drop k):Nat):Int)))
  {s:List UInt8} (hsl:s.length<4611686018427387904):wpF gt C F92 [.str s] St.init (Ret (encSplit (splitB s))):=by
 have hf:=split_outS s;unfold cutB at hf;generalize splitB s=res at hf ⊢;refine⟨rfl,?_⟩;refine goW ?_;cases s with
 | nil =>
  have hf:res=outS [] (cutP false (([]:List UInt8).drop 0)):=hf;have fin:=λ(z:Env)=>splitRun_wp (gt:=gt) (z:=z) (i:=0) hm hrun hsl (Nat.zero_le _) hf;rw[dF (show ¬(0:Int)<((([]:List UInt8).length:Nat):Int) by simp)];refine goK ?_
  with_unfolding_all exact fin []
 | cons b r =>
  have hget:(b::r)[0]? = some b:=rfl;have h45:hd 45 (b::r)=(b == 45):=rfl;rw[h45]at hf;have hlen:(b::r).length=r.length+1:=rfl;generalize hq:b::r=s at hget hf hsl hlen ⊢;rw[dT (show (0:Int)<((s.length:Nat):Int) by omega)];refine goW ?_;refine st_any (by exact rfl) (sx_ixS (k:=0) rfl rfl hget) (goW ?_);rw[show ((b.toNat:Int) == 45)=(b == 45) from u8_eqI b 45];cases hb:(b == 45) with
  | true =>
   rw[hb,if_pos rfl]at hf;have fin:=λ(z:Env)=>splitRun_wp (gt:=gt) (z:=z) (i:=1) hm hrun hsl (by omega) hf;refine goK ?_
   with_unfolding_all exact fin []
  | false =>
   rw[hb,if_neg (by simp)]at hf;have fin:=λ(z:Env)=>splitRun_wp (gt:=gt) (z:=z) (i:=0) hm hrun hsl (by omega) hf;refine goK ?_
   with_unfolding_all exact fin []
end

section
variable {gt:GT}{C:CallT}
abbrev E_jn (neg:Bool)(d:List UInt8)(e:Int)(i:Int):Env:=[(1,.box [.bool neg,.str d,.int .i64 e]),(4,.val (.int .i64 d.length)),(5,.val (.int .i64 i))]
set_option maxHeartbeats 8000000 in
theorem joinEnd_wp (hm:MonoC C)(hit:∀e:Int,-999999<=e->e<=999999->PF C 119 [.int .i64 e] (.str (itoaB e)))
  {neg:Bool} {d:List UInt8} {e:Int} {z:Env} {res:List UInt8×Int} (hl:d.length<=1000) (h1:-999999<=e) (h2:e<=999999)
  (hf:res=if 1000<((if neg=true then [45]++d else d)++(if e=0 then [] else [101]++itoaB e)).length then ([],2)
  else ((if neg=true then [45]++d else d)++(if e=0 then [] else [101]++itoaB e),0)) :
  wpD gt C F93.body.rt.rt.rt.rt.rt.rt ((1,.box [.bool neg,.str d,.int .i64 e])::z) St.init (bodyQ gt F93.res (Ret (encJoin res))):=by
 have ret:∀{o:List UInt8×Int} {S:St},res=o->Ret (encJoin res) (.ret (encJoin o)) S:=λh=>by rw[h];exact Ret.sta (sta_join _)
 have hil:=itoaB_len h1 h2;have hit:=hit e h1 h2
 conv=>whnf
 refine goW ?_;cases neg with
 | true =>
  rw[if_pos rfl]at hf;refine goW ?_;refine step_ruleO (st_addS rfl rfl (by simp only[lC,lN];omega)) ?_;have hl2:([45]++d).length=d.length+1:=by simp
  generalize ([45]:List UInt8)++d=x at hf hl2 ⊢;refine goW ?_;by_cases z5:e=0
  ·rw[neI_false z5];rw[if_pos z5,List.append_nil]at hf;refine goW ?_;by_cases z6:(x.length:Int) > 1000
   ·rw[dT z6];refine goW ?_;exact⟨_,rfl,ret (o:=([],2)) (by rw[hf,if_pos (by omega)])⟩
   rw[dF z6];refine goW ?_;exact⟨_,rfl,ret (o:=(x,0)) (by rw[hf,if_neg (by omega)])⟩
  rw[neI_true z5];rw[if_neg z5,<-aA]at hf;refine goW ?_;refine step_ruleO (st_addS rfl rfl (by simp only[lC,lN];omega)) ?_;have hl3:(x++[101]).length=x.length+1:=by simp
  generalize x++([101]:List UInt8)=y at hf hl3 ⊢;refine goW ?_;refine call_pf hm (by rfl) hit (goW ?_);refine step_ruleO (st_addS rfl rfl (by omega)) ?_;generalize y++itoaB e=v at hf ⊢;refine goW ?_;by_cases z6:(v.length:Int) > 1000
  ·rw[dT z6];refine goW ?_;exact⟨_,rfl,ret (o:=([],2)) (by rw[hf,if_pos (by omega)])⟩
  rw[dF z6];refine goW ?_;exact⟨_,rfl,ret (o:=(v,0)) (by rw[hf,if_neg (by omega)])⟩
 | false =>
  simp only[Bool.false_eq_true,if_false]at hf;refine goW ?_;by_cases z5:e=0
  ·rw[neI_false z5];rw[if_pos z5,List.append_nil]at hf;refine goW ?_;by_cases z6:(d.length:Int) > 1000
   ·rw[dT z6];refine goW ?_;exact⟨_,rfl,ret (o:=([],2)) (by rw[hf,if_pos (by omega)])⟩
   rw[dF z6];refine goW ?_;exact⟨_,rfl,ret (o:=(d,0)) (by rw[hf,if_neg (by omega)])⟩
  rw[neI_true z5];rw[if_neg z5,<-aA]at hf;refine goW ?_;refine step_ruleO (st_addS rfl rfl (by simp only[lC,lN];omega)) ?_;have hl3:(d++[101]).length=d.length+1:=by simp
  generalize d++([101]:List UInt8)=y at hf hl3 ⊢;refine goW ?_;refine call_pf hm (by rfl) hit (goW ?_);refine step_ruleO (st_addS rfl rfl (by omega)) ?_;generalize y++itoaB e=v at hf ⊢;refine goW ?_;by_cases z6:(v.length:Int) > 1000
  ·rw[dT z6];refine goW ?_;exact⟨_,rfl,ret (o:=([],2)) (by rw[hf,if_pos (by omega)])⟩
  rw[dF z6];refine goW ?_;exact⟨_,rfl,ret (o:=(v,0)) (by rw[hf,if_neg (by omega)])⟩
set_option maxHeartbeats 8000000 in
theorem joinR_wp (hm:MonoC C)(hdg:∀b:UInt8,PF C 118 [.int .u8 b.toNat] (.bool (dig b)))(hit:∀e:Int,-999999<=e->e<=999999->PF C 119 [.int .i64 e] (.str (itoaB e)))
  {p:Parts3} (hl:p.2.1.length<=1000):wpF gt C F93 [encP p] St.init (Ret (encJoin (joinB p))):=by
 obtain⟨neg,d,e⟩:=p;simp only at hl;have ret:∀{o:List UInt8×Int} {S:St},joinB (neg,d,e)=o->Ret (encJoin (joinB (neg,d,e))) (.ret (encJoin o)) S:=λh=>by rw[h];exact Ret.sta (sta_join _)
 have hf:joinB (neg,d,e)=if runB d<d.length\/(hd 48 d=true\/tl 48 d=true)\/(d=[]/\(e≠0\/neg=true)) then ([],1)
  else if e < -999999\/999999<e then ([],5)
  else if d=[] then ([48],0)
  else if 1000<((if neg=true then [45]++d else d)++(if e=0 then [] else [101]++itoaB e)).length then ([],2)
  else ((if neg=true then [45]++d else d)++(if e=0 then [] else [101]++itoaB e),0):=rfl
 generalize joinB (neg,d,e)=res at ret hf ⊢;refine⟨rfl,?_⟩;refine goW ?_;refine loop_rule hm (α:=Nat) (λi env S'=>i<=d.length/\env=E_jn neg d e i/\S'=St.init/\runB d=i+runB (d.drop i)) (λi=>d.length-i) ?_ (a:=0) ⟨Nat.zero_le _,rfl,rfl,by simp⟩;rintro i env S' ⟨hi,rfl,rfl,hp⟩;refine goW ?_;by_cases hc:(i:Int)<(d.length:Nat)
 ·rw[dT hc];refine goW ?_;have hik:i<d.length:=by omega
  refine step_ruleO (sx_ixS (k:=i) rfl rfl (gE hik)) (goW ?_);refine call_pf hm (by rfl) (hdg d[i]) ?_;rw[dC hik]at hp;simp only[runB]at hp;cases hdi:dig d[i] with
  | false =>
   rw[hdi]at hp;refine goW ?_;exact⟨_,rfl,ret (o:=([],1)) (by rw[hf,if_pos (.inl (by simp only[Bool.false_eq_true,if_false]at hp;omega))])⟩
  | true =>
   rw[hdi,if_pos rfl]at hp;refine goW ?_;refine⟨i+1,⟨by omega,?_,rfl,by rw[hp];omega⟩,by omega⟩;rw[wrNat (by omega)]
 rw[dF hc];rw[List.drop_eq_nil_of_le (by omega)]at hp;have z1:¬runB d<d.length:=by rw[hp];simp only[runB];omega
 clear hp hc
 refine goW ?_;cases d with
 | nil =>
  rw[eqI_true (show ((([]:List UInt8).length:Nat):Int)=0 from rfl)];refine goW ?_;by_cases y1:e=0
  ·rw[neI_false y1];refine goW ?_;cases neg with
   | true =>
    refine goW ?_;exact⟨_,rfl,ret (o:=([],1)) (by rw[hf,if_pos (.inr (.inr ⟨rfl,.inr rfl⟩))])⟩
   | false =>
    rw[if_neg (by rintro (h | (h | h) | ⟨_,h | h⟩);exact z1 h;cases h;cases h;exact h y1;cases h)]at hf;subst y1;refine goW ?_;exact⟨_,rfl,ret (o:=([48],0)) (by rw[hf,if_neg (by omega),if_pos rfl])⟩
  ·rw[neI_true y1];refine goW ?_;exact⟨_,rfl,ret (o:=([],1)) (by rw[hf,if_pos (.inr (.inr ⟨rfl,.inl y1⟩))])⟩
 | cons b r =>
  have hlen:(b::r).length=r.length+1:=rfl;generalize hd0:b::r=d at ret hf hl z1 hlen ⊢;have hb0:d[0]? = some b:=by rw[<-hd0];rfl
  have hne:d≠[]:=by rw[<-hd0];simp
  obtain⟨lb,hlb⟩:∃lb,d[d.length-1]? = some lb:=⟨_,gE (by omega)⟩
  rw[eqI_false (show ¬((d.length:Nat):Int)=0 by omega)];refine goW ?_;rw[dT (show ((d.length:Nat):Int) > 0 by omega)];refine goW ?_;refine st_any (by exact rfl) (sx_ixS (k:=0) rfl rfl hb0) (goW ?_);rw[show ((b.toNat:Int) == 48)=(b == 48) from u8_eqI b 48,<-hd_head (c:=48) hb0];cases y1:hd 48 d with
  | true =>
   refine goW ?_;exact⟨_,rfl,ret (o:=([],1)) (by rw[hf,if_pos (.inr (.inl (.inl y1)))])⟩
  | false =>
   refine goW ?_;rw[show wr .i64 ((d.length:Int)-1)=((d.length-1:Nat):Int) by rw[wr64 (by omega) (by omega)];omega];refine st_any (by exact rfl) (sx_ixS (k:=d.length-1) rfl rfl hlb) (goW ?_);rw[show ((lb.toNat:Int) == 48)=(lb == 48) from u8_eqI lb 48,<-tl_last (c:=48) hlb (by omega)];cases y2:tl 48 d with
   | true =>
    refine goW ?_;exact⟨_,rfl,ret (o:=([],1)) (by rw[hf,if_pos (.inr (.inl (.inr y2)))])⟩
   | false =>
    rw[if_neg (by rintro (h | (h | h) | ⟨h,_⟩);exact z1 h;rw[y1]at h;cases h;rw[y2]at h;cases h;exact hne h)]at hf;refine goW ?_;by_cases x2:e > 999999
    ·rw[dT x2];refine goW ?_;exact⟨_,rfl,ret (o:=([],5)) (by rw[hf,if_pos (.inr x2)])⟩
    rw[dF x2];refine goW ?_;by_cases x1:e < -999999
    ·rw[dT x1];refine goW ?_;exact⟨_,rfl,ret (o:=([],5)) (by rw[hf,if_pos (.inl x1)])⟩
    rw[dF x1];rw[if_neg (by omega),if_neg hne]at hf;refine goW ?_;rw[eqI_false (show ¬((d.length:Nat):Int)=0 by omega)];have fin:=λ(z:Env)=>joinEnd_wp (gt:=gt) (z:=z) hm hit hl (by omega) (by omega) hf;refine goK ?_
    with_unfolding_all exact fin []
set_option maxHeartbeats 4000000 in
theorem normalR_wp (hm:MonoC C)(hsplit:∀s:List UInt8,s.length<4611686018427387904->PF C 92 [.str s] (encSplit (splitB s)))(hjoin:∀p:Parts3,p.2.1.length<=1000->PF C 93 [encP p] (encJoin (joinB p)))
  {s:List UInt8} (hl:s.length<4611686018427387904):wpF gt C F73 [.str s] St.init (Ret (encJoin (normB s))):=by
 have hsplit:=hsplit s hl;have hlen:=splitB_len (s:=s);unfold normB;generalize splitB s=q at hsplit hlen ⊢;obtain⟨⟨neg,d,e⟩,er⟩:=q;simp only at hlen ⊢;refine⟨rfl,?_⟩;refine goW ?_;refine call_pf hm (by rfl) hsplit (goW ?_);by_cases z:er=0
 ·rw[neI_false z,if_pos z];refine goW ?_;have hj:=hjoin (neg,d,e) (hlen z);refine call_pf hm (by rfl) hj ?_;generalize joinB (neg,d,e)=jr;refine goW ?_;exact⟨_,rfl,Ret.sta (sta_join _)⟩
 ·rw[neI_true z,if_neg z];refine goW ?_;exact⟨_,rfl,Ret.sta (sta_join ([],er))⟩
end

def digL (n:Nat)(t:List UInt8):Int:=if t.length=n/\t.all dig=true then valB 0 t else -1
def digI (s:List UInt8)(a n:Nat):Int:=digL n ((s.drop a).take n)
theorem digI_two (s:List UInt8)(a:Nat):digI s a 2=twoB ((s.drop a).take 2):=by
 unfold digI;generalize (s.drop a).take 2=t
 match t with
 | []=>rfl
 | [x]=>rfl
 | [x,y] =>
  unfold digL;simp only[twoB,lC,lN,List.all_cons,List.all_nil,Bool.and_true,bA,true_and];by_cases h:dig x=true/\dig y=true
  ·have h1:=dig_iff.1 h.1;have h2:=dig_iff.1 h.2;refine(if_pos h).trans (Eq.trans ?_ (if_pos h).symm);show ((valB 0 [x,y]:Nat):Int)=_;have e:valB 0 [x,y]=(0*10+(x.toNat-48))*10+(y.toNat-48):=rfl;rw[e];omega
  ·rw[if_neg h,if_neg h]
 | _::_::_::r=>unfold digL;rw[if_neg (by rintro⟨h,_⟩;simp only[lC]at h;omega)];rfl
theorem valB_nil (a:Nat):valB a []=a:=rfl
theorem valB_cons (a:Nat)(b:UInt8)(r:List UInt8):valB a (b::r)=valB (a*10+(b.toNat-48)) r:=by
 have h:valB a (b::r)=valB (a*10+(b.toNat-48)) r:=Eq.refl _;exact h
theorem valB_snoc (b:UInt8)(l:List UInt8):∀(a:Nat),valB a (l++[b])=valB a l*10+(b.toNat-48):=by
 induction l with
 | nil=>intro a;rw[List.nil_append,valB_cons,valB_nil,valB_nil]
 | cons c r ih=>intro a;rw[List.cons_append,valB_cons,valB_cons];exact ih _
section
variable {gt:GT}{C:CallT}
abbrev E_dgs (s:List UInt8)(a n:Nat)(v:Nat)(i:Nat):Env:=[(0,.val (.str s)),(1,.val (.int .i64 a)),(2,.val (.int .i64 n)),(7,.val (.int .i64 v)),(8,.val (.int .i64 i))]
set_option maxHeartbeats 4000000 in
theorem digs_wp (hm:MonoC C){s:List UInt8}{a n:Nat}(ha:a<4611686018427387904)(hn:n<=9)(hl:s.length<4611686018427387904):wpF gt C F97 [.str s,.int .i64 a,.int .i64 n] St.init (Ret (.int .i64 (digI s a n))):=by
 have ret:∀{z:Int} {S:St},digI s a n=z->Ret (.int .i64 (digI s a n)) (.ret (.int .i64 z)) S:=λh=>by rw[h];exact Ret.sta trivial
 refine⟨rfl,?_⟩;refine goW ?_;refine loop_rule hm (α:=Nat) (λj env S'=>j<=n/\a+j<=s.length+(if j=0 then a else 0)/\((s.drop a).take j).all dig=true/\env=E_dgs s a n (valB 0 ((s.drop a).take j)) (a+j)/\S'=St.init) (λj=>n-j) ?_ (a:=0) ⟨Nat.zero_le _,by simp,by simp,rfl,rfl⟩;rintro j env S' ⟨hj,hlen,hall,rfl,rfl⟩;have hlt:=valB_lt _ 0 hall;have hj9:10 ^ ((s.drop a).take j).length<=10 ^ 9:=Nat.pow_le_pow_right (by decide) (by rw[lT];omega);have h9:(10:Nat) ^ 9=1000000000:=by decide
 have hv:valB 0 ((s.drop a).take j)<1000000000:=by omega
 clear hlt hj9 h9
 refine goW ?_;rw[wr64 (n:=(a:Int)+(n:Int)) (by omega) (by omega)];by_cases hc:((a+j:Nat):Int)<(a:Int)+(n:Int)
 ·rw[dT hc];have hjn:j<n:=by omega
  have bad:¬(∃h:a+j<s.length,dig s[a+j]=true)->digI s a n=-1:=λh=>by
   unfold digI digL;rw[if_neg];rintro⟨h1,h2⟩;rw[lT,lD]at h1;have hal:a+j<s.length:=by omega
   refine h ⟨hal,List.all_eq_true.1 h2 _ ?_⟩;refine List.mem_iff_getElem.2 ⟨j,by rw[lT,lD];omega,?_⟩;rw[List.getElem_take,List.getElem_drop]
  refine goW ?_;by_cases h1:((a+j:Nat):Int) ≥ (s.length:Nat)
  ·rw[dT h1];refine goW ?_;exact⟨_,rfl,ret (bad λ⟨h,_⟩=>by omega)⟩
  rw[dF h1];have hik:a+j<s.length:=by omega
  have hget:s[a+j]? = some s[a+j]:=gE hik;have htk:(s.drop a).take (j+1)=(s.drop a).take j++[s[a+j]]:=by
   rw[tS (by rw[lD];omega),List.getElem_drop]
  have bad:dig s[a+j]=false->digI s a n=-1:=λh=>bad λ⟨_,h'⟩=>by rw[h]at h';cases h'
  generalize s[a+j]=b at hget htk bad;refine goW ?_;refine st_any (by exact rfl) (sx_ixS (k:=a+j) rfl rfl hget) (goW ?_);by_cases h2:(b.toNat:Int)<48
  ·rw[dT h2];refine goW ?_;exact⟨_,rfl,ret (bad (by unfold dig;rw[dF (show ¬48<=b.toNat by omega),Bool.false_and]))⟩
  rw[dF h2];refine goW ?_;refine st_any (by exact rfl) (sx_ixS (k:=a+j) rfl rfl hget) (goW ?_);by_cases h3:(b.toNat:Int) > 57
  ·rw[dT h3];refine goW ?_;exact⟨_,rfl,ret (bad (by unfold dig;rw[dF (show ¬b.toNat<=57 by omega),Bool.and_false]))⟩
  rw[dF h3];have hdb:dig b=true:=dig_iff.2 ⟨by omega,by omega⟩;refine goW ?_;refine step_ruleO (sx_ixS (k:=a+j) rfl rfl hget) (goW ?_);refine⟨j+1,⟨by omega,by rw[if_neg (by omega)];omega,by rw[htk,List.all_append,hall];simp[hdb],?_,rfl⟩,by omega⟩;simp only[E_dgs];rw[htk,valB_snoc,wrNat (by omega),wr8 (n:=(b.toNat:Int)-48) (by omega) (by omega),wr64 (n:=(b.toNat:Int)-48) (by omega) (by omega)];generalize valB 0 ((s.drop a).take j)=v at hv ⊢;rw[wr64 (n:=(v:Int)*10) (by omega) (by omega),wr64 (n:=(v:Int)*10+((b.toNat:Int)-48)) (by omega) (by omega),
   show (v:Int)*10+((b.toNat:Int)-48)=((v*10+(b.toNat-48):Nat):Int) by omega]
  try rfl
 ·rw[dF hc];have hjn:j=n:=by omega
  subst hjn;refine goW ?_;have hlen':((s.drop a).take j).length=j:=by
   rw[lT,lD];by_cases h0:j=0
   ·subst h0;simp
   ·rw[if_neg h0]at hlen;omega
  exact⟨_,rfl,ret (if_pos ⟨hlen',hall⟩)⟩
end

theorem ten {s:List UInt8}(h:s.length=10):∃b0 b1 b2 b3 b4 b5 b6 b7 b8 b9,s=[b0,b1,b2,b3,b4,b5,b6,b7,b8,b9]:=by
 match s,h with
 | [b0,b1,b2,b3,b4,b5,b6,b7,b8,b9],_=>exact⟨b0,b1,b2,b3,b4,b5,b6,b7,b8,b9,rfl⟩
theorem twoB_ok (a b:UInt8):(0<=twoB [a,b]↔dig a=true/\dig b=true)/\(dig a=true/\dig b=true->twoB [a,b]=((a.toNat:Int)-48)*10+((b.toNat:Int)-48)):=by
 simp only[twoB];by_cases h:dig a=true/\dig b=true
 ·rw[if_pos h];have h1:=dig_iff.1 h.1;have h2:=dig_iff.1 h.2;exact⟨⟨λ_=>h,λ_=>by omega⟩,λ_=>rfl⟩
 ·rw[if_neg h];exact⟨⟨λh'=>by omega,λh'=>absurd h' h⟩,λh'=>absurd h' h⟩
theorem dig4 (a b c d:UInt8):digL 4 [a,b,c,d]=if 0<=twoB [a,b]/\0<=twoB [c,d] then twoB [a,b]*100+twoB [c,d] else -1:=by
 unfold digL;have e:([a,b,c,d].all dig=true)↔(dig a=true/\dig b=true)/\(dig c=true/\dig d=true):=by
  simp only[List.all_cons,List.all_nil,Bool.and_true,bA,and_assoc]
 obtain⟨p1,p2⟩:=twoB_ok a b;obtain⟨q1,q2⟩:=twoB_ok c d;by_cases h:(dig a=true/\dig b=true)/\(dig c=true/\dig d=true)
 ·rw[if_pos ⟨rfl,e.2 h⟩,if_pos ⟨p1.2 h.1,q1.2 h.2⟩,p2 h.1,q2 h.2];have h1:=dig_iff.1 h.1.1;have h2:=dig_iff.1 h.1.2;have h3:=dig_iff.1 h.2.1;have h4:=dig_iff.1 h.2.2;rw[valB_cons,valB_cons,valB_cons,valB_cons,valB_nil];omega
 ·rw[if_neg λx=>h (e.1 x.2),if_neg λx=>h ⟨p1.1 x.1,q1.1 x.2⟩]
theorem dateB_10 (b0 b1 b2 b3 b4 b5 b6 b7 b8 b9:UInt8):dateB [b0,b1,b2,b3,b4,b5,b6,b7,b8,b9] =
  ((b4 == 45) && ((b7 == 45) && (decide (0<=digI [b0,b1,b2,b3,b4,b5,b6,b7,b8,b9] 0 4) && (decide (1<=digI [b0,b1,b2,b3,b4,b5,b6,b7,b8,b9] 5 2) && (decide (digI [b0,b1,b2,b3,b4,b5,b6,b7,b8,b9] 5 2<=12) && (decide (1<=digI [b0,b1,b2,b3,b4,b5,b6,b7,b8,b9] 8 2) &&
   decide (digI [b0,b1,b2,b3,b4,b5,b6,b7,b8,b9] 8 2<=daysB (digI [b0,b1,b2,b3,b4,b5,b6,b7,b8,b9] 0 4) (digI [b0,b1,b2,b3,b4,b5,b6,b7,b8,b9] 5 2)))))))):=by
 have e1:digI [b0,b1,b2,b3,b4,b5,b6,b7,b8,b9] 0 4=if 0<=twoB [b0,b1]/\0<=twoB [b2,b3] then twoB [b0,b1]*100+twoB [b2,b3] else -1:=dig4 b0 b1 b2 b3
 have e2:digI [b0,b1,b2,b3,b4,b5,b6,b7,b8,b9] 5 2=twoB [b5,b6]:=digI_two _ 5;have e3:digI [b0,b1,b2,b3,b4,b5,b6,b7,b8,b9] 8 2=twoB [b8,b9]:=digI_two _ 8;have e4:dateB [b0,b1,b2,b3,b4,b5,b6,b7,b8,b9]=((b4 == 45) && ((b7 == 45) && (decide (0<=twoB [b0,b1]) && (decide (0<=twoB [b2,b3]) && ((decide (twoB [b5,b6] ≥ 1) && decide (twoB [b5,b6]<=12)) && (decide (twoB [b8,b9] ≥ 1) && decide (twoB [b8,b9]<=daysB (twoB [b0,b1]*100+twoB [b2,b3]) (twoB [b5,b6])))))))):=rfl;rw[e1,e2,e3,e4];generalize twoB [b0,b1]=y1;generalize twoB [b2,b3]=y2;generalize twoB [b5,b6]=m;generalize twoB [b8,b9]=d;by_cases h1:0<=y1
 ·by_cases h2:0<=y2
  ·rw[if_pos ⟨h1,h2⟩,dT h1,dT h2,dT (show 0<=y1*100+y2 by omega)];simp only[Bool.true_and,Bool.and_assoc,ge_iff_le]
  ·rw[if_neg λh=>h2 h.2,dF h2,dF (show ¬(0:Int)<=-1 by omega)];simp only[Bool.false_and,Bool.and_false]
 ·rw[if_neg λh=>h1 h.1,dF h1,dF (show ¬(0:Int)<=-1 by omega)];simp only[Bool.false_and,Bool.and_false]
section
variable {gt:GT}{C:CallT}
set_option maxHeartbeats 8000000 in
theorem dateEnd_wp (hm:MonoC C){y m d:Int}{z:Env}{res:Bool}(hf:res=(decide (0<=y) && (decide (1<=m) && (decide (m<=12) && (decide (1<=d) && decide (d<=daysB y m)))))) :
  wpD gt C F95.body.rt.rt.rt.rt.rt ((3,.val (.int .i64 y))::(4,.val (.int .i64 m))::(5,.val (.int .i64 d))::z) St.init (bodyQ gt F95.res (Ret (.bool res))):=by
 have ret:∀{o:Bool} {S:St},res=o->Ret (.bool res) (.ret (.bool o)) S:=λh=>by rw[h];exact Ret.sta trivial
 conv=>whnf
 refine goW ?_;by_cases y0:y<0
 ·rw[dT y0];refine goW ?_;exact⟨_,rfl,ret (by rw[hf,dF (by omega)];rfl)⟩
 rw[dF y0];rw[dT (show 0<=y by omega),Bool.true_and]at hf;refine goW ?_;by_cases m0:m<1
 ·rw[dT m0];refine goW ?_;exact⟨_,rfl,ret (by rw[hf,dF (by omega)];rfl)⟩
 rw[dF m0];rw[dT (show 1<=m by omega),Bool.true_and]at hf;refine goW ?_;by_cases m1:m > 12
 ·rw[dT m1];refine goW ?_;exact⟨_,rfl,ret (by rw[hf,dF (by omega)];rfl)⟩
 rw[dF m1];rw[dT (show m<=12 by omega),Bool.true_and]at hf;refine goW ?_;by_cases d0:d<1
 ·rw[dT d0];refine goW ?_;exact⟨_,rfl,ret (by rw[hf,dF (by omega)];rfl)⟩
 rw[dF d0];rw[dT (show 1<=d by omega),Bool.true_and]at hf;unfold daysB at hf;refine goW ?_;by_cases m4:m=4
 ·rw[eqI_true m4];rw[if_pos (.inl m4)]at hf;refine goW ?_;rw[eqI_false (show ¬m=2 by omega)];refine goW ?_;exact⟨_,rfl,ret hf⟩
 rw[eqI_false m4];refine goW ?_;by_cases m6:m=6
 ·rw[eqI_true m6];rw[if_pos (.inr (.inl m6))]at hf;refine goW ?_;rw[eqI_false (show ¬m=2 by omega)];refine goW ?_;exact⟨_,rfl,ret hf⟩
 rw[eqI_false m6];refine goW ?_;by_cases m9:m=9
 ·rw[eqI_true m9];rw[if_pos (.inr (.inr (.inl m9)))]at hf;refine goW ?_;rw[eqI_false (show ¬m=2 by omega)];refine goW ?_;exact⟨_,rfl,ret hf⟩
 rw[eqI_false m9];refine goW ?_;by_cases m11:m=11
 ·rw[eqI_true m11];rw[if_pos (.inr (.inr (.inr m11)))]at hf;refine goW ?_;rw[eqI_false (show ¬m=2 by omega)];refine goW ?_;exact⟨_,rfl,ret hf⟩
 rw[eqI_false m11];rw[if_neg (by omega)]at hf;refine goW ?_;by_cases m2:m=2
 case neg =>
  rw[eqI_false m2];rw[if_neg m2]at hf;refine goW ?_;exact⟨_,rfl,ret hf⟩
 rw[eqI_true m2];rw[if_pos m2]at hf;refine goW ?_;by_cases c4:y.tmod 4=0
 case neg =>
  rw[eqI_false c4];rw[if_neg λh=>c4 h.1]at hf;refine goW ?_;exact⟨_,rfl,ret hf⟩
 rw[eqI_true c4];refine goW ?_;by_cases c100:y.tmod 100=0
 case neg =>
  rw[neI_true c100];rw[if_pos ⟨c4,.inl c100⟩]at hf;refine goW ?_;exact⟨_,rfl,ret hf⟩
 rw[neI_false c100];refine goW ?_;by_cases c400:y.tmod 400=0
 ·rw[eqI_true c400];rw[if_pos ⟨c4,.inr c400⟩]at hf;refine goW ?_;exact⟨_,rfl,ret hf⟩
 ·rw[eqI_false c400];rw[if_neg (by rintro⟨_,h | h⟩;exact h c100;exact c400 h)]at hf;refine goW ?_;exact⟨_,rfl,ret hf⟩
set_option maxHeartbeats 8000000 in
theorem date3_wp (hm:MonoC C)(hdg:∀(s:List UInt8) (a n:Nat),a<4611686018427387904->n<=9->s.length<4611686018427387904->PF C 97 [.str s,.int .i64 a,.int .i64 n] (.int .i64 (digI s a n)))
  {s:List UInt8}:wpF gt C F95 [.str s] St.init (Ret (.bool (dateB s))):=by
 refine⟨rfl,?_⟩;refine goW ?_;by_cases h10:s.length=10
 case neg =>
  rw[neI_true (show ¬((s.length:Nat):Int)=10 by omega)];refine goW ?_;refine⟨_,rfl,?_⟩;rw[show dateB s=false by unfold dateB;rw[dF h10];rfl];exact Ret.sta trivial
 rw[neI_false (show ((s.length:Nat):Int)=10 by omega)];have d1:=hdg s 0 4 (by omega) (by omega) (by omega);have d2:=hdg s 5 2 (by omega) (by omega) (by omega);have d3:=hdg s 8 2 (by omega) (by omega) (by omega);obtain⟨b0,b1,b2,b3,b4,b5,b6,b7,b8,b9,rfl⟩:=ten h10;have hf:=dateB_10 b0 b1 b2 b3 b4 b5 b6 b7 b8 b9;generalize dateB [b0,b1,b2,b3,b4,b5,b6,b7,b8,b9]=res at hf ⊢;have ret:∀{o:Bool} {S:St},res=o->Ret (.bool res) (.ret (.bool o)) S:=λh=>by rw[h];exact Ret.sta trivial
 generalize digI [b0,b1,b2,b3,b4,b5,b6,b7,b8,b9] 0 4=y at hf d1;generalize digI [b0,b1,b2,b3,b4,b5,b6,b7,b8,b9] 5 2=m at hf d2;generalize digI [b0,b1,b2,b3,b4,b5,b6,b7,b8,b9] 8 2=d at hf d3;refine goW ?_;rw[show ((b4.toNat:Int) != 45) = !(b4 == 45) from u8_neI b4 45];cases h4:(b4 == 45) with
 | false =>
  refine goW ?_;exact⟨_,rfl,ret (by rw[hf,h4];rfl)⟩
 | true =>
 rw[h4,Bool.true_and]at hf;refine goW ?_;rw[show ((b7.toNat:Int) != 45) = !(b7 == 45) from u8_neI b7 45];cases h7:(b7 == 45) with
 | false =>
  refine goW ?_;exact⟨_,rfl,ret (by rw[hf,h7];rfl)⟩
 | true =>
 rw[h7,Bool.true_and]at hf;refine goW ?_;refine call_pf hm (by rfl) d1 (goW ?_);refine call_pf hm (by rfl) d2 (goW ?_);refine call_pf hm (by rfl) d3 ?_;have fin:=λz=>dateEnd_wp (gt:=gt) (z:=z) hm hf;refine goK ?_
 with_unfolding_all exact fin []
end

theorem tenD_all:(List.range 256).all (λn=>tenD.contains (UInt8.ofNat n) == dig (UInt8.ofNat n))=true:=by kernel_rfl
theorem tenD_dig (b:UInt8):tenD.contains b=dig b:=by
 have:=List.all_eq_true.1 tenD_all b.toNat (List.mem_range.2 (u8_lt b))
 rwa [UInt8.ofNat_toNat,beq_iff_eq]at this
theorem trimA_nil {cs t:List UInt8}:trimA cs t=[]↔∀x∈t,cs.contains x=true:=by
 unfold trimA;constructor
 ·intro h;rw[(trim_comm cs t).1]at h;cases ht:trimL cs t with
  | nil=>exact dropW_nil.1 ht
  | cons b r =>
   exfalso;rw[ht]at h;have hb:cs.contains b=false:=by
    have:=List.head_dropWhile_not (p:=(cs.contains ·)) (l:=t) (by show trimL cs t≠[];rw[ht];simp);have e:t.dropWhile (cs.contains ·)=b::r:=ht;simp only[e,List.head_cons]at this;exact this
   exact(trimR_head hb).1 h
 ·intro h;rw[trimR_all h];rfl
theorem frac_iff {s:List UInt8}(h1:10<=s.length):decide (0<=digI s 9 (s.length-9))=beqB (trimA tenD (s.drop 9)) []:=by
 have hl:(s.drop 9).length=s.length-9:=lD;unfold digI;rw[List.take_of_length_le (by omega)];generalize s.drop 9=t at hl ⊢;unfold digL;rw[Bool.eq_iff_iff,beqB_iff,trimA_nil,decide_eq_true_eq];have e:(t.all dig=true)↔∀x∈t,tenD.contains x=true:=by
  rw[List.all_eq_true];exact⟨λh x hx=>by rw[tenD_dig];exact h x hx,λh x hx=>by rw[<-tenD_dig];exact h x hx⟩
 rw[<-e];by_cases ha:t.all dig=true
 ·rw[if_pos ⟨hl,ha⟩];generalize valB 0 t=v;exact⟨λ_=>ha,λ_=>by omega⟩
 ·rw[if_neg λh=>ha h.2];exact⟨λh=>by omega,λh=>absurd h ha⟩
section
variable {gt:GT}{C:CallT}
set_option maxHeartbeats 8000000 in
theorem clock3_wp (hm:MonoC C)(hdg:∀(s:List UInt8) (a n:Nat),a<4611686018427387904->n<=9->s.length<4611686018427387904->PF C 97 [.str s,.int .i64 a,.int .i64 n] (.int .i64 (digI s a n)))
  {s:List UInt8} (hsl:s.length<4611686018427387904):wpF gt C F96 [.str s] St.init (Ret (.bool (clockB s))):=by
 have hf:clockB s=(decide (8<=s.length) && (atB s 2 58 && (atB s 5 58 && ((decide (digI s 0 2 ≥ 0) && decide (digI s 0 2<=23)) && ((decide (digI s 3 2 ≥ 0) && decide (digI s 3 2<=59)) && ((decide (digI s 6 2 ≥ 0) && decide (digI s 6 2<=59)) &&
  (decide (s.length=8) || (atB s 8 46 && (decide (1<=(s.drop 9).length) && (decide ((s.drop 9).length<=9) && beqB (trimA tenD (s.drop 9)) [])))))))))):=by
  rw[digI_two,digI_two,digI_two];rfl
 have d1:=hdg s 0 2 (by omega) (by omega) hsl;have d2:=hdg s 3 2 (by omega) (by omega) hsl;have d3:=hdg s 6 2 (by omega) (by omega) hsl;have hd9:(s.drop 9).length=s.length-9:=lD;have hfr:=@frac_iff s;have d4:=λh=>hdg s 9 (s.length-9) (by omega) h hsl;generalize clockB s=res at hf ⊢;have ret:∀{o:Bool} {S:St},res=o->Ret (.bool res) (.ret (.bool o)) S:=λh=>by rw[h];exact Ret.sta trivial
 generalize digI s 0 2=h at hf d1;generalize digI s 3 2=m at hf d2;generalize digI s 6 2=c at hf d3;generalize digI s 9 (s.length-9)=fr at hfr d4;refine⟨rfl,?_⟩;refine goW ?_;by_cases h8:(s.length:Int)<8
 ·rw[dT h8];refine goW ?_;exact⟨_,rfl,ret (by rw[hf,dF (by omega)];rfl)⟩
 rw[dF h8];rw[dT (show 8<=s.length by omega),Bool.true_and]at hf;obtain⟨b2,hb2⟩:∃b,s[2]? = some b:=⟨_,gE (by omega)⟩
 obtain⟨b5,hb5⟩:∃b,s[5]? = some b:=⟨_,gE (by omega)⟩
 rw[atB_get hb2,atB_get hb5]at hf;refine goW ?_;refine st_any (by exact rfl) (sx_ixS (k:=2) rfl rfl hb2) (goW ?_);rw[show ((b2.toNat:Int) != 58) = !(b2 == 58) from u8_neI b2 58];cases h2:(b2 == 58) with
 | false =>
  refine goW ?_;exact⟨_,rfl,ret (by rw[hf,h2];rfl)⟩
 | true =>
 rw[h2,Bool.true_and]at hf;refine goW ?_;refine st_any (by exact rfl) (sx_ixS (k:=5) rfl rfl hb5) (goW ?_);rw[show ((b5.toNat:Int) != 58) = !(b5 == 58) from u8_neI b5 58];cases h5:(b5 == 58) with
 | false =>
  refine goW ?_;exact⟨_,rfl,ret (by rw[hf,h5];rfl)⟩
 | true =>
 rw[h5,Bool.true_and]at hf;refine goW ?_;refine call_pf hm (by rfl) d1 (goW ?_);refine call_pf hm (by rfl) d2 (goW ?_);refine call_pf hm (by rfl) d3 (goW ?_);by_cases q1:h<0
 ·rw[dT q1];refine goW ?_;exact⟨_,rfl,ret (by rw[hf,dF (show ¬h ≥ 0 by omega)];rfl)⟩
 rw[dF q1];rw[dT (show h ≥ 0 by omega),Bool.true_and]at hf;refine goW ?_;by_cases q2:h > 23
 ·rw[dT q2];refine goW ?_;exact⟨_,rfl,ret (by rw[hf,dF (show ¬h<=23 by omega)];rfl)⟩
 rw[dF q2];rw[dT (show h<=23 by omega),Bool.true_and]at hf;refine goW ?_;by_cases q3:m<0
 ·rw[dT q3];refine goW ?_;exact⟨_,rfl,ret (by rw[hf,dF (show ¬m ≥ 0 by omega)];rfl)⟩
 rw[dF q3];rw[dT (show m ≥ 0 by omega),Bool.true_and]at hf;refine goW ?_;by_cases q4:m > 59
 ·rw[dT q4];refine goW ?_;exact⟨_,rfl,ret (by rw[hf,dF (show ¬m<=59 by omega)];rfl)⟩
 rw[dF q4];rw[dT (show m<=59 by omega),Bool.true_and]at hf;refine goW ?_;by_cases q5:c<0
 ·rw[dT q5];refine goW ?_;exact⟨_,rfl,ret (by rw[hf,dF (show ¬c ≥ 0 by omega)];rfl)⟩
 rw[dF q5];rw[dT (show c ≥ 0 by omega),Bool.true_and]at hf;refine goW ?_;by_cases q6:c > 59
 ·rw[dT q6];refine goW ?_;exact⟨_,rfl,ret (by rw[hf,dF (show ¬c<=59 by omega)];rfl)⟩
 rw[dF q6];rw[dT (show c<=59 by omega),Bool.true_and]at hf;refine goW ?_;by_cases q7:s.length=8
 ·rw[eqI_true (show ((s.length:Nat):Int)=8 by omega)];refine goW ?_;exact⟨_,rfl,ret (by rw[hf,dT q7];rfl)⟩
 rw[eqI_false (show ¬((s.length:Nat):Int)=8 by omega)];rw[dF q7,Bool.false_or]at hf;obtain⟨b8,hb8⟩:∃b,s[8]? = some b:=⟨_,gE (by omega)⟩
 rw[atB_get hb8]at hf;refine goW ?_;refine step_ruleO (sx_ixS (k:=8) rfl rfl hb8) (goW ?_);rw[show ((b8.toNat:Int) == 46)=(b8 == 46) from u8_eqI b8 46];cases h46:(b8 == 46) with
 | false =>
  refine goW ?_;exact⟨_,rfl,ret (by rw[hf,h46];rfl)⟩
 | true =>
 rw[h46,Bool.true_and]at hf;refine goW ?_;by_cases q8:(s.length:Int) ≥ 10
 case neg =>
  rw[dF q8];refine goW ?_;exact⟨_,rfl,ret (by rw[hf,dF (by omega)];rfl)⟩
 rw[dT q8];rw[dT (show 1<=(s.drop 9).length by omega),Bool.true_and]at hf;refine goW ?_;by_cases q9:(s.length:Int)<=18
 case neg =>
  rw[dF q9];refine goW ?_;exact⟨_,rfl,ret (by rw[hf,dF (by omega)];rfl)⟩
 rw[dT q9];rw[dT (show (s.drop 9).length<=9 by omega),Bool.true_and,<-hfr (by omega)]at hf;have d4:=d4 (by omega);refine goW ?_;rw[show wr .i64 ((s.length:Int)-9)=((s.length-9:Nat):Int) by rw[wr64 (by omega) (by omega)];omega];refine call_pf hm (by rfl) d4 (goW ?_);exact⟨_,rfl,ret hf⟩
end

def tailR (t:List UInt8):Bool :=
 clockB t || (if atB t (t.length-1) 90=true then clockB (t.take (t.length-1))
 else decide (14<=t.length) && ((atB t (t.length-6) 43 || atB t (t.length-6) 45) && (atB t (t.length-3) 58 &&
  (decide (digI t (t.length-5) 2 ≥ 0) && (decide (digI t (t.length-5) 2<=23) && (decide (digI t (t.length-2) 2 ≥ 0) && (decide (digI t (t.length-2) 2<=59) && clockB (t.take (t.length-6)))))))))
def timeR (s:List UInt8):Bool :=
 dateB s || (clockB s || (decide (19<=s.length) && (atB s 10 84 && (dateB (s.take 10) && tailR (s.drop 11)))))
section
variable {gt:GT}{C:CallT}
set_option maxHeartbeats 8000000 in
theorem timeTail_wp (hm:MonoC C)(hdg:∀(s:List UInt8) (a n:Nat),a<4611686018427387904->n<=9->s.length<4611686018427387904->PF C 97 [.str s,.int .i64 a,.int .i64 n] (.int .i64 (digI s a n)))
  (hck:∀s:List UInt8,s.length<4611686018427387904->PF C 96 [.str s] (.bool (clockB s)))
  {t:List UInt8} {z:Env} (hl:t.length<4611686018427387904) (h8:8<=t.length) :
  wpD gt C F75.body.rt.rt.rt.rt ((3,.val (.str t))::z) St.init (bodyQ gt F75.res (Ret (.bool (tailR t)))):=by
 have hf:tailR t=(clockB t || (if atB t (t.length-1) 90=true then clockB (t.take (t.length-1))
 else decide (14<=t.length) && ((atB t (t.length-6) 43 || atB t (t.length-6) 45) && (atB t (t.length-3) 58 &&
  (decide (digI t (t.length-5) 2 ≥ 0) && (decide (digI t (t.length-5) 2<=23) && (decide (digI t (t.length-2) 2 ≥ 0) && (decide (digI t (t.length-2) 2<=59) && clockB (t.take (t.length-6)))))))))):=rfl
 have d1:=hdg t (t.length-5) 2 (by omega) (by omega) hl;have d2:=hdg t (t.length-2) 2 (by omega) (by omega) hl;have c1:=hck t hl;have c2:=hck (t.take (t.length-1)) (by rw[lT];omega);have c3:=hck (t.take (t.length-6)) (by rw[lT];omega);generalize tailR t=res at hf ⊢;have ret:∀{o:Bool} {S:St},res=o->Ret (.bool res) (.ret (.bool o)) S:=λh=>by rw[h];exact Ret.sta trivial
 generalize digI t (t.length-5) 2=h at hf d1;generalize digI t (t.length-2) 2=m at hf d2;generalize clockB t=k1 at hf c1;generalize clockB (t.take (t.length-1))=k2 at hf c2;generalize clockB (t.take (t.length-6))=k3 at hf c3;obtain⟨bz,hbz⟩:∃b,t[t.length-1]? = some b:=⟨_,gE (by omega)⟩
 obtain⟨b6,hb6⟩:∃b,t[t.length-6]? = some b:=⟨_,gE (by omega)⟩
 obtain⟨b3,hb3⟩:∃b,t[t.length-3]? = some b:=⟨_,gE (by omega)⟩
 rw[atB_get hbz,atB_get hb6,atB_get hb6,atB_get hb3]at hf;have w1:wr .i64 ((t.length:Int)-1)=((t.length-1:Nat):Int):=by rw[wr64 (by omega) (by omega)];omega
 have w6:wr .i64 ((t.length:Int)-6)=((t.length-6:Nat):Int):=by rw[wr64 (by omega) (by omega)];omega
 have w3:wr .i64 ((t.length:Int)-3)=((t.length-3:Nat):Int):=by rw[wr64 (by omega) (by omega)];omega
 have w5:wr .i64 ((t.length:Int)-5)=((t.length-5:Nat):Int):=by rw[wr64 (by omega) (by omega)];omega
 have w2:wr .i64 ((t.length:Int)-2)=((t.length-2:Nat):Int):=by rw[wr64 (by omega) (by omega)];omega
 conv=>whnf
 refine goW ?_;refine call_pf hm (by rfl) c1 ?_;cases k1 with
 | true =>
  refine goW ?_;exact⟨_,rfl,ret (by rw[hf];rfl)⟩
 | false =>
 rw[Bool.false_or]at hf;refine goW ?_;rw[w1];refine step_ruleO (sx_ixS (k:=t.length-1) rfl rfl hbz) (goW ?_);rw[show ((bz.toNat:Int) == 90)=(bz == 90) from u8_eqI bz 90];cases hz:(bz == 90) with
 | true =>
  rw[hz,if_pos rfl]at hf;refine goW ?_;rw[w1];refine step_ruleO (sx_slHiS (h:=t.length-1) rfl rfl (by omega)) (goW ?_);refine call_pf hm (by rfl) c2 (goW ?_);exact⟨_,rfl,ret hf⟩
 | false =>
 rw[hz,if_neg (by simp)]at hf;refine goW ?_;by_cases h14:(t.length:Int)<14
 ·rw[dT h14];refine goW ?_;exact⟨_,rfl,ret (by rw[hf,dF (by omega)];rfl)⟩
 rw[dF h14];rw[dT (show 14<=t.length by omega),Bool.true_and]at hf;refine goW ?_;rw[w6];refine st_any (by exact rfl) (sx_ixS (k:=t.length-6) rfl rfl hb6) (goW ?_);rw[show ((b6.toNat:Int) != 43) = !(b6 == 43) from u8_neI b6 43];have fin:res=(decide (h ≥ 0) && (decide (h<=23) && (decide (m ≥ 0) && (decide (m<=59) && k3))))->∀z,wpD gt C F75.body.rt.rt.rt.rt.rt.rt.rt.rt ((3,.val (.str t))::(4,.val (.int .i64 t.length))::z) St.init (bodyQ gt F75.res (Ret (.bool res))):=λhf z=>by
  conv=>whnf
  refine goW ?_;rw[w5];refine call_pf hm (by rfl) d1 (goW ?_);rw[w2];refine call_pf hm (by rfl) d2 (goW ?_);by_cases q1:h ≥ 0
  case neg =>
   rw[dF q1];refine goW ?_;exact⟨_,rfl,ret (by rw[hf,dF q1];rfl)⟩
  rw[dT q1];rw[dT q1,Bool.true_and]at hf;refine goW ?_;by_cases q2:h<=23
  case neg =>
   rw[dF q2];refine goW ?_;exact⟨_,rfl,ret (by rw[hf,dF q2];rfl)⟩
  rw[dT q2];rw[dT q2,Bool.true_and]at hf;refine goW ?_;by_cases q3:m ≥ 0
  case neg =>
   rw[dF q3];refine goW ?_;exact⟨_,rfl,ret (by rw[hf,dF q3];rfl)⟩
  rw[dT q3];rw[dT q3,Bool.true_and]at hf;refine goW ?_;by_cases q4:m<=59
  case neg =>
   rw[dF q4];refine goW ?_;exact⟨_,rfl,ret (by rw[hf,dF q4];rfl)⟩
  rw[dT q4];rw[dT q4,Bool.true_and]at hf;refine goW ?_;rw[w6];refine st_any (by exact rfl) (sx_slHiS (h:=t.length-6) rfl rfl (by omega)) (goW ?_);refine call_pf hm (by rfl) c3 (goW ?_);exact⟨_,rfl,ret hf⟩
 cases h43:(b6 == 43) with
 | true =>
  rw[h43,Bool.true_or,Bool.true_and]at hf;refine goW ?_;rw[w3];refine st_any (by exact rfl) (sx_ixS (k:=t.length-3) rfl rfl hb3) (goW ?_);rw[show ((b3.toNat:Int) != 58) = !(b3 == 58) from u8_neI b3 58];cases h58:(b3 == 58) with
  | false =>
   refine goW ?_;exact⟨_,rfl,ret (by rw[hf,h58];rfl)⟩
  | true =>
   rw[h58,Bool.true_and]at hf;have fin:=fin hf;refine goK ?_
   with_unfolding_all exact fin []
 | false =>
  rw[h43,Bool.false_or]at hf;refine goW ?_;rw[w6];refine st_any (by exact rfl) (sx_ixS (k:=t.length-6) rfl rfl hb6) (goW ?_);rw[show ((b6.toNat:Int) != 45) = !(b6 == 45) from u8_neI b6 45];cases h45:(b6 == 45) with
  | false =>
   refine goW ?_;exact⟨_,rfl,ret (by rw[hf,h45];rfl)⟩
  | true =>
   rw[h45,Bool.true_and]at hf;refine goW ?_;rw[w3];refine st_any (by exact rfl) (sx_ixS (k:=t.length-3) rfl rfl hb3) (goW ?_);rw[show ((b3.toNat:Int) != 58) = !(b3 == 58) from u8_neI b3 58];cases h58:(b3 == 58) with
   | false =>
    refine goW ?_;exact⟨_,rfl,ret (by rw[hf,h58];rfl)⟩
   | true =>
    rw[h58,Bool.true_and]at hf;have fin:=fin hf;refine goK ?_
    with_unfolding_all exact fin []
set_option maxHeartbeats 8000000 in
theorem time3_wp (hm:MonoC C)(hdg:∀(s:List UInt8) (a n:Nat),a<4611686018427387904->n<=9->s.length<4611686018427387904->PF C 97 [.str s,.int .i64 a,.int .i64 n] (.int .i64 (digI s a n)))
  (hck:∀s:List UInt8,s.length<4611686018427387904->PF C 96 [.str s] (.bool (clockB s))) (hdt:∀s:List UInt8,PF C 95 [.str s] (.bool (dateB s)))
  {s:List UInt8} (hl:s.length<4611686018427387904):wpF gt C F75 [.str s] St.init (Ret (.bool (timeR s))):=by
 have hf:timeR s=(dateB s || (clockB s || (decide (19<=s.length) && (atB s 10 84 && (dateB (s.take 10) && tailR (s.drop 11)))))):=rfl;have c1:=hck s hl;have e1:=hdt s;have e2:=hdt (s.take 10);generalize timeR s=res at hf ⊢;have ret:∀{o:Bool} {S:St},res=o->Ret (.bool res) (.ret (.bool o)) S:=λh=>by rw[h];exact Ret.sta trivial
 generalize dateB s=k1 at hf e1;generalize clockB s=k2 at hf c1;generalize dateB (s.take 10)=k3 at hf e2;refine⟨rfl,?_⟩;refine goW ?_;refine call_pf hm (by rfl) e1 ?_;cases k1 with
 | true =>
  refine goW ?_;exact⟨_,rfl,ret (by rw[hf];rfl)⟩
 | false =>
 rw[Bool.false_or]at hf;refine goW ?_;refine call_pf hm (by rfl) c1 ?_;cases k2 with
 | true =>
  refine goW ?_;exact⟨_,rfl,ret (by rw[hf];rfl)⟩
 | false =>
 rw[Bool.false_or]at hf;refine goW ?_;by_cases h19:(s.length:Int)<19
 ·rw[dT h19];refine goW ?_;exact⟨_,rfl,ret (by rw[hf,dF (by omega)];rfl)⟩
 rw[dF h19];rw[dT (show 19<=s.length by omega),Bool.true_and]at hf;obtain⟨bt,hbt⟩:∃b,s[10]? = some b:=⟨_,gE (by omega)⟩
 rw[atB_get hbt]at hf;refine goW ?_;refine st_any (by exact rfl) (sx_ixS (k:=10) rfl rfl hbt) (goW ?_);rw[show ((bt.toNat:Int) != 84) = !(bt == 84) from u8_neI bt 84];cases hT:(bt == 84) with
 | false =>
  refine goW ?_;exact⟨_,rfl,ret (by rw[hf,hT];rfl)⟩
 | true =>
 rw[hT,Bool.true_and]at hf;refine goW ?_;refine st_any (by exact rfl) (sx_slHiS (h:=10) rfl rfl (by omega)) (goW ?_);refine call_pf hm (by rfl) e2 ?_;cases k3 with
 | false =>
  refine goW ?_;exact⟨_,rfl,ret (by rw[hf];rfl)⟩
 | true =>
 rw[Bool.true_and]at hf;rw[hf];have fin:=λz=>timeTail_wp (gt:=gt) (z:=z) hm hdg hck (t:=s.drop 11) (by rw[lD];omega) (by rw[lD];omega);refine goW ?_;refine step_ruleO (sx_slLo (l:=11) rfl rfl (by omega)) ?_;refine goK ?_
 with_unfolding_all exact fin []
end
end Go.Dn

namespace Go.Dn
open Go
theorem cutC_true {c:UInt8}:∀{s d e:List UInt8},cutC c s=(d,e,true)->s=d++c::e
 | [],d,e,h=>by simp[cutC]at h
 | b::r,d,e,h=>by
  simp only[cutC]at h;split at h
  ·rename_i hb;rw[beq_iff_eq]at hb;simp only[Prod.mk.injEq]at h;obtain⟨rfl,rfl,_⟩:=h;rw[hb];rfl
  ·simp only[Prod.mk.injEq]at h;obtain⟨rfl,rfl,h3⟩:=h;rw[List.cons_append,<-cutC_true (s:=r) (d:=(cutC c r).1) (e:=(cutC c r).2.1) (by rw[<-h3])]
theorem cutC_app {c:UInt8}{e:List UInt8}:∀{d:List UInt8},c ∉ d->cutC c (d++c::e)=(d,e,true)
 | [],_=>by simp[cutC]
 | b::r,h=>by
  have hb:(b == c)=false:=by
   cases hh:(b == c) with
   | false=>rfl
   | true=>rw[beq_iff_eq]at hh;exact absurd (by rw[hh];simp) h
  have ih:=cutC_app (c:=c) (e:=e) (d:=r) λh'=>h (by simp[h']);simp only[List.cons_append,cutC,hb,ih,Bool.false_eq_true,if_false]
theorem hd_mem {c:UInt8}{l:List UInt8}(h:hd c l=true):c∈l:=by
 cases l with
 | nil=>cases h
 | cons b r =>
  have:b=c:=by simpa[hd] using h
  rw[this];simp
theorem not_mem_hd {c:UInt8}{l:List UInt8}(h:c ∉ l):hd c l=false:=by
 cases hh:hd c l with
 | false=>rfl
 | true=>exact absurd (hd_mem hh) h
theorem within_dig {a b:UInt8}{lo hi:Int}(h0:0<=lo)(h:withinB [a,b] lo hi=true):dig a=true/\dig b=true:=by
 unfold withinB at h;rw[bA,decide_eq_true_eq,decide_eq_true_eq]at h;exact(twoB_ok a b).1.1 (by omega)
theorem dig84:dig 84=false:=by decide
theorem date_ok {d:List UInt8}(h:dateB d=true):d.length=10/\(84:UInt8) ∉ d:=by
 have h10:d.length=10:=by
  unfold dateB at h;rw[bA,decide_eq_true_eq]at h;exact h.1
 refine⟨h10,?_⟩;obtain⟨b0,b1,b2,b3,b4,b5,b6,b7,b8,b9,rfl⟩:=ten h10;have e:dateB [b0,b1,b2,b3,b4,b5,b6,b7,b8,b9]=((b4 == 45) && ((b7 == 45) && (decide (0<=twoB [b0,b1]) && (decide (0<=twoB [b2,b3]) && (withinB [b5,b6] 1 12 && withinB [b8,b9] 1 (daysB (twoB [b0,b1]*100+twoB [b2,b3]) (twoB [b5,b6]))))))):=rfl;rw[e]at h;simp only[bA,beq_iff_eq,decide_eq_true_eq]at h;obtain⟨rfl,rfl,h1,h2,h3,h4⟩:=h;have g1:=(twoB_ok b0 b1).1.1 h1;have g2:=(twoB_ok b2 b3).1.1 h2;have g3:=within_dig (by decide) h3;have g4:=within_dig (by decide) h4;have n84:∀{b:UInt8},dig b=true->(84:UInt8)≠b:=λhb e=>by rw[<-e,dig84]at hb;cases hb
 simp only[List.mem_cons,List.not_mem_nil,or_false,not_or];exact⟨n84 g1.1,n84 g1.2,n84 g2.1,n84 g2.2,by decide,n84 g3.1,n84 g3.2,by decide,n84 g4.1,n84 g4.2⟩
theorem clock_ok {t:List UInt8}(h:clockB t=true):8<=t.length/\∀b∈t,b=58\/b=46\/dig b=true:=by
 have h8:8<=t.length:=by
  unfold clockB at h;rw[bA,decide_eq_true_eq]at h;exact h.1
 refine⟨h8,?_⟩
 match t,h8,h with
 | b0::b1::b2::b3::b4::b5::b6::b7::r,_,h =>
  have e:clockB (b0::b1::b2::b3::b4::b5::b6::b7::r)=(decide (8<=(b0::b1::b2::b3::b4::b5::b6::b7::r).length) && ((b2 == 58) && ((b5 == 58) && (withinB [b0,b1] 0 23 && (withinB [b3,b4] 0 59 && (withinB [b6,b7] 0 59 &&
   (decide ((b0::b1::b2::b3::b4::b5::b6::b7::r).length=8) || (hd 46 r && (decide (1<=(r.drop 1).length) && (decide ((r.drop 1).length<=9) && beqB (trimA tenD (r.drop 1)) [])))))))))):=rfl
  rw[e]at h;simp only[bA,beq_iff_eq]at h;obtain⟨_,rfl,rfl,h1,h2,h3,h4⟩:=h;have g1:=within_dig (by decide) h1;have g2:=within_dig (by decide) h2;have g3:=within_dig (by decide) h3;have hr:∀b∈r,b=58\/b=46\/dig b=true:=by
   intro b hb;rw[Bool.or_eq_true,decide_eq_true_eq]at h4;rcases h4 with h4 | h4
   ·have:r=[]:=nL (by simpa using h4);rw[this]at hb;simp at hb
   ·simp only[bA]at h4;obtain⟨q1,_,_,q2⟩:=h4;rw[beqB_iff,trimA_nil]at q2;cases r with
    | nil=>simp at hb
    | cons c q =>
     have:c=46:=by simpa[hd] using q1
     rcases List.mem_cons.1 hb with rfl | hb
     ·exact .inr (.inl this)
     ·exact .inr (.inr (by rw[<-tenD_dig];exact q2 b hb))
  intro b hb;simp only[List.mem_cons]at hb;rcases hb with rfl | rfl | rfl | rfl | rfl | rfl | rfl | rfl | hb
  ·exact .inr (.inr g1.1)
  ·exact .inr (.inr g1.2)
  ·exact .inl rfl
  ·exact .inr (.inr g2.1)
  ·exact .inr (.inr g2.2)
  ·exact .inl rfl
  ·exact .inr (.inr g3.1)
  ·exact .inr (.inr g3.2)
  ·exact hr b hb
theorem clock_no {t:List UInt8}(h:clockB t=true){c:UInt8}(hc:¬(c=58\/c=46\/dig c=true)):c ∉ t:=λhm=>hc ((clock_ok h).2 c hm)
theorem clock_zone {t:List UInt8}(h:clockB t=true):(zoneB t).1=t:=by
 have n90:(90:UInt8) ∉ t:=clock_no h (by decide);have n43:(43:UInt8) ∉ t:=clock_no h (by decide);have n45:(45:UInt8) ∉ t:=clock_no h (by decide);unfold zoneB;rw[if_neg,if_pos]
 ·right
  exact⟨not_mem_hd λhm=>n43 (List.mem_of_mem_drop hm),not_mem_hd λhm=>n45 (List.mem_of_mem_drop hm)⟩
 ·rw[Bool.not_eq_true];exact not_mem_hd λhm=>n90 (List.mem_reverse.1 hm)
theorem tl_at {c:UInt8}{t:List UInt8}(h:1<=t.length):tl c t=atB t (t.length-1) c:=by
 obtain⟨b,hb⟩:∃b,t[t.length-1]? = some b:=⟨_,gE (by omega)⟩
 rw[tl_last hb (by omega),atB_get hb]
theorem atB_drop (t:List UInt8)(a k:Nat)(c:UInt8):atB (t.drop a) k c=atB t (a+k) c:=by
 unfold atB;rw[List.drop_drop]
theorem tail_zone {t:List UInt8}(h8:8<=t.length):tailR t=clockB (zoneB t).1:=by
 by_cases hc:clockB t=true
 ·rw[clock_zone hc,hc];unfold tailR;rw[hc];rfl
 have hc':clockB t=false:=by simpa using hc
 have e1:atB (t.drop (t.length-6)) 3 58=atB t (t.length-3) 58:=by rw[atB_drop];congr 1;omega
 have e2:withinB (sub (t.drop (t.length-6)) 1 3) 0 23=(decide (digI t (t.length-5) 2 ≥ 0) && decide (digI t (t.length-5) 2<=23)):=by
  rw[digI_two];unfold sub withinB;rw[List.drop_drop,show t.length-6+1=t.length-5 by omega]
 have e3:withinB ((t.drop (t.length-6)).drop 4) 0 59=(decide (digI t (t.length-2) 2 ≥ 0) && decide (digI t (t.length-2) 2<=59)):=by
  rw[digI_two];unfold withinB;rw[List.drop_drop,show t.length-6+4=t.length-2 by omega,List.take_of_length_le (by rw[lD];omega)]
 unfold tailR zoneB;rw[hc',Bool.false_or,tl_at (by omega),e1,e2,e3];by_cases hz:atB t (t.length-1) 90=true
 ·rw[if_pos hz,if_pos hz]
 rw[if_neg hz,if_neg hz];have short:t.length<14->clockB (t.take (t.length-6))=false:=λh=>by
  cases hk:clockB (t.take (t.length-6)) with
  | false=>rfl
  | true =>
   have:=(clock_ok hk).1;rw[lT]at this;omega
 cases h43:atB t (t.length-6) 43 with
 | false =>
  cases h45:atB t (t.length-6) 45 with
  | false =>
   rw[if_pos (.inr ⟨rfl,rfl⟩)];simp only[Bool.or_self,Bool.false_and,Bool.and_false,hc']
  | true =>
   rw[if_neg (by rintro (h | ⟨_,h⟩);omega;cases h)];cases h58:atB t (t.length-3) 58 with
   | false =>
    rw[if_pos (.inl rfl)];simp only[Bool.false_and,Bool.and_false,hc']
   | true =>
    generalize decide (digI t (t.length-5) 2 ≥ 0)=x1;generalize decide (digI t (t.length-5) 2<=23)=x2;generalize decide (digI t (t.length-2) 2 ≥ 0)=x3;generalize decide (digI t (t.length-2) 2<=59)=x4;by_cases h14:14<=t.length
    ·rw[dT h14];cases x1<;>cases x2<;>cases x3<;>cases x4<;>simp[hc']
    ·rw[dF h14];have:=short (by omega);cases x1<;>cases x2<;>cases x3<;>cases x4<;>simp[hc',this]
 | true =>
  rw[if_neg (by rintro (h | ⟨h,_⟩);omega;cases h)];cases h58:atB t (t.length-3) 58 with
  | false =>
   rw[if_pos (.inl rfl)];simp only[Bool.false_and,Bool.and_false,hc']
  | true =>
   generalize decide (digI t (t.length-5) 2 ≥ 0)=x1;generalize decide (digI t (t.length-5) 2<=23)=x2;generalize decide (digI t (t.length-2) 2 ≥ 0)=x3;generalize decide (digI t (t.length-2) 2<=59)=x4;by_cases h14:14<=t.length
   ·rw[dT h14];cases x1<;>cases x2<;>cases x3<;>cases x4<;>simp[hc']
   ·rw[dF h14];have:=short (by omega);cases x1<;>cases x2<;>cases x3<;>cases x4<;>simp[hc',this]
theorem zone_drop {s:List UInt8}(h19:19<=s.length):(zoneB s).1=s.take 11++(zoneB (s.drop 11)).1:=by
 have hl:(s.drop 11).length=s.length-11:=lD;have d6:(s.drop 11).drop ((s.drop 11).length-6)=s.drop (s.length-6):=by rw[List.drop_drop,hl];congr 1;omega
 have tk:∀k,k<=6->s.take (s.length-k)=s.take 11++(s.drop 11).take ((s.drop 11).length-k):=λk hk=>by
  rw[hl,show s.length-k=11+(s.length-11-k) by omega,List.take_add]
 have al:s=s.take 11++s.drop 11:=(tkD 11 s).symm;have a1:∀c,atB (s.drop 11) ((s.drop 11).length-6) c=atB s (s.length-6) c:=λc=>by rw[atB_drop,hl];congr 1;omega
 have a2:tl 90 (s.drop 11)=tl 90 s:=by rw[tl_at (by omega),tl_at (by omega),atB_drop,hl];congr 1;omega
 unfold zoneB;rw[a2,a1,a1,d6];by_cases hz:tl 90 s=true
 ·rw[if_pos hz,if_pos hz];exact tk 1 (by omega)
 rw[if_neg hz,if_neg hz];by_cases h1:atB s (s.length-6) 43=false/\atB s (s.length-6) 45=false
 ·rw[if_pos (.inr h1),if_pos (.inr h1)];exact al
 have n1:¬(s.length<6\/(atB s (s.length-6) 43=false/\atB s (s.length-6) 45=false)):=by rintro (h | h);omega;exact h1 h
 have n2:¬((s.drop 11).length<6\/(atB s (s.length-6) 43=false/\atB s (s.length-6) 45=false)):=by rintro (h | h);omega;exact h1 h
 rw[if_neg n1,if_neg n2];by_cases h2:atB (s.drop (s.length-6)) 3 58=false\/withinB (sub (s.drop (s.length-6)) 1 3) 0 23=false\/withinB ((s.drop (s.length-6)).drop 4) 0 59=false
 ·rw[if_pos h2,if_pos h2];exact al
 ·rw[if_neg h2,if_neg h2];exact tk 6 (by omega)
theorem timeR_eq (s:List UInt8):timeR s=timeB s:=by
 unfold timeR timeB
 congr 2
 by_cases h19:19<=s.length
 ·rw[dT h19,Bool.true_and,tail_zone (by rw[lD];omega),zone_drop h19];generalize (zoneB (s.drop 11)).1=z;obtain⟨b,hb⟩:∃b,s[10]? = some b:=⟨_,gE (by omega)⟩
  have hl10:(s.take 10).length=10:=by rw[lT];omega
  have h11:s.take 11=s.take 10++[b]:=by
   have:=List.take_add_one (l:=s) (i:=10);rw[hb]at this;exact this
  rw[h11,aA,List.singleton_append,atB_get hb];generalize s.take 10=d at hl10 ⊢;by_cases hok:(b == 84)=true/\dateB d=true
  ·have hb84:b=84:=by simpa using hok.1
   subst hb84;rw[cutC_app (date_ok hok.2).2];rfl
  ·have hL:((b == 84) && (dateB d && clockB z))=false:=by
    cases h1:(b == 84) with
    | false=>rfl
    | true =>
     cases h2:dateB d with
     | false=>rfl
     | true=>exact absurd ⟨h1,h2⟩ hok
   rw[hL]
   symm
   cases hq:cutC 84 (d++b::z) with
   | mk d' q =>
    obtain⟨c',ok⟩:=q;cases ok with
    | false=>rfl
    | true =>
     simp only[Bool.true_and];have he:=cutC_true hq;cases hd':dateB d' with
     | false=>rfl
     | true =>
      exfalso;have hl':=(date_ok hd').1;have:=List.append_inj he (by omega);obtain⟨e1,e2⟩:=this;simp only[List.cons.injEq]at e2;exact hok ⟨by rw[e2.1];rfl,by rw[e1];exact hd'⟩
 ·rw[dF h19,Bool.false_and]
  symm
  cases hq:cutC 84 (zoneB s).1 with
  | mk d' q =>
   obtain⟨c',ok⟩:=q;cases ok with
   | false=>rfl
   | true =>
    simp only[Bool.true_and];have he:=congrArg List.length (cutC_true hq);have hz:=zoneB_le s;rw[lA,lC]at he;cases hd':dateB d' with
    | false=>rfl
    | true =>
     cases hc':clockB c' with
     | false=>rfl
     | true =>
      have h1:=(date_ok hd').1;have h2:=(clock_ok hc').1;omega
end Go.Dn

namespace Go.Proofs.YtbojekglccdajaaGreatDoor.Fn
open Go.ChangeShapes Go.WideShapes Go.ChangeAt Go.RowKit Go.Dn
theorem digitR (b:UInt8):PF A 118 [.int .u8 b.toNat] (.bool (dig b)) :=
 pf Tryz.func118 (by kernel_rfl) C1.F118_ok (s1 trivial) digitR_wp
theorem runR (s:List UInt8)(k:Nat)(hk:k<=s.length)(h:s.length<4611686018427387904):PF A 117 [.str s,.int .i64 k] (.int .i64 ((k+runB (s.drop k):Nat):Int)) :=
 pf Tryz.func117 (by kernel_rfl) C1.F117_ok (s2 trivial trivial) (runR_wp hm digitR hk h)
theorem digitsR (n:Nat)(h:n<9223372036854775808):PF A 140 [.int .i64 n] (.str (decB n)) :=
 pf Tryz.func140 (by kernel_rfl) C1.F140_ok (s1 trivial) (digits_wp hm h)
theorem decimalR (e:Int)(h1:-999999<=e)(h2:e<=999999):PF A 119 [.int .i64 e] (.str (itoaB e)) :=
 pf Tryz.func119 (by kernel_rfl) C1.F119_ok (s1 trivial) (decimal_wp hm digitsR h1 h2)
theorem splitR (s:List UInt8)(h:s.length<4611686018427387904):PF A 92 [.str s] (encSplit (splitB s)) :=
 pf Tryz.func92 (by kernel_rfl) C1.F92_ok (s1 trivial) (splitR_wp hm runR h)
theorem joinR (p:Parts3)(h:p.2.1.length<=1000):PF A 93 [encP p] (encJoin (joinB p)) :=
 pf Tryz.func93 (by kernel_rfl) C1.F93_ok (s1 ⟨trivial,trivial,trivial,trivial⟩) (joinR_wp hm digitR decimalR h)
theorem normalR (s:List UInt8)(h:s.length<4611686018427387904):PF A 73 [.str s] (encJoin (normB s)) :=
 pf Tryz.func73 (by kernel_rfl) C1.F73_ok (s1 trivial) (normalR_wp hm splitR joinR h)
theorem digs3 (s:List UInt8)(a n:Nat)(ha:a<4611686018427387904)(hn:n<=9)(h:s.length<4611686018427387904):PF A 97 [.str s,.int .i64 a,.int .i64 n] (.int .i64 (digI s a n)) :=
 pf Tryz.func97 (by kernel_rfl) C1.F97_ok (s3 trivial trivial trivial) (digs_wp hm ha hn h)
theorem date3 (s:List UInt8):PF A 95 [.str s] (.bool (dateB s)) :=
 pf Tryz.func95 (by kernel_rfl) C1.F95_ok (s1 trivial) (date3_wp hm digs3)
theorem clock3 (s:List UInt8)(h:s.length<4611686018427387904):PF A 96 [.str s] (.bool (clockB s)) :=
 pf Tryz.func96 (by kernel_rfl) C1.F96_ok (s1 trivial) (clock3_wp hm digs3 h)
theorem time3 (s:List UInt8)(h:s.length<4611686018427387904):PF A 75 [.str s] (.bool (timeB s)):=by
 rw[<-timeR_eq];exact pf Tryz.func75 (by kernel_rfl) C1.F75_ok (s1 trivial) (time3_wp hm digs3 clock3 date3 h)
theorem charR (c:Int):PF A 141 [.int .i64 c] (.bool (charB c)) :=
 pf Tryz.func141 (by kernel_rfl) C1.F141_ok (s1 trivial) charR_wp
theorem oneR (s:List UInt8)(k:Nat)(hk:k<s.length)(h:s.length<4611686018427387904):PF A 120 [.str s,.int .i64 k] (encFirst (firstC (s.drop k))) :=
 pf Tryz.func120 (by kernel_rfl) C1.F120_ok (s2 trivial trivial) (one_wp hm charR hk h)
theorem runesR (s:List UInt8)(h:s.length<4294967281):A 94 [.str s] St.init λr _=>RunesP s r :=
 AC_intro Tryz.checked.mixed Tryz.func94 (by kernel_rfl) C1.F94_ok (runes_wp hm oneR h)
theorem validR (s:List UInt8)(h:s.length<4294967281):PF A 74 [.str s] (.bool (validB s)) :=
 pf Tryz.func74 (by kernel_rfl) C1.F74_ok (s1 trivial) (validR_wp hm (runesR s h))
theorem shaped:∀t:PT,t.sok->PF A 47 [encT t] (.bool (formedB t)) :=
 indT λt ih h=>pf Tryz.func47 (by kernel_rfl) C1.F47_ok (s1 (sta_T t)) (shaped_wp hm normalR validR time3 ih h)
theorem depth3:∀t:PT,t.n<4611686018427387904->PF A 46 [encT t] (.int .i64 t.dp) :=
 indT λt ih h=>pf Tryz.func46 (by kernel_rfl) C1.F46_ok (s1 (sta_T t)) (depth3_wp hm (λu hu=>ih u hu (by omega)) h)
theorem right3 (t:PT)(h:t.n<4611686018427387904)(hk:t.sok):PF A 33 [encT t] (.int .i64 (rightB t)) :=
 pf Tryz.func33 (by kernel_rfl) C1.F33_ok (s1 (sta_T t)) (right3_wp hm (depth3 t h) (size3 t 4097 (by omega)) (shaped t hk))
end Go.Proofs.YtbojekglccdajaaGreatDoor.Fn

namespace Go.Dn
section
variable {α:Type}(le:α->α->Prop)
abbrev Srt (l:List α):Prop:=l.Pairwise le
variable {le}
theorem srt_app {x y:List α}:Srt le (x++y)↔Srt le x/\Srt le y/\∀u∈x,∀v∈y,le u v:=List.pairwise_append
theorem ends_le (tr:∀{a b c:α},le a b->le b c->le a c){x y:List α}(hx:Srt le x)(hy:Srt le y)(h:∀u v,x[x.length-1]? = some u->y[0]? = some v->le u v)(rf:∀a,le a a):∀u∈x,∀v∈y,le u v:=by
 intro u hu v hv;obtain⟨i,hi,rfl⟩:=List.mem_iff_getElem.1 hu;obtain⟨j,hj,rfl⟩:=List.mem_iff_getElem.1 hv;have h1:le x[i] (x[x.length-1]'(by omega)):=by
  rcases Nat.lt_or_ge i (x.length-1) with q | q
  ·exact List.pairwise_iff_getElem.1 hx i (x.length-1) hi (by omega) q
  ·have:i=x.length-1:=by omega
   simp only[this];exact rf _
 have h2:le (y[0]'(by omega)) y[j]:=by
  rcases Nat.eq_zero_or_pos j with q | q
  ·simp only[q];exact rf _
  ·exact List.pairwise_iff_getElem.1 hy 0 j (by omega) hj q
 exact tr (tr h1 (h _ _ (gE (by omega)) (gE (by omega)))) h2
theorem merge_ok {A B C D Z1 Z2:List α}(h1:Srt le Z1)(h2:Srt le Z2)(p1:Z1.Perm (A++C))(p2:Z2.Perm (B++D))(hAB:∀u∈A,∀v∈B,le u v)(hAD:∀u∈A,∀v∈D,le u v)(hCB:∀u∈C,∀v∈B,le u v)(hCD:∀u∈C,∀v∈D,le u v) :
  Srt le (Z1++Z2)/\(Z1++Z2).Perm ((A++B)++(C++D)):=by
 refine⟨srt_app.2 ⟨h1,h2,λu hu v hv=>?_⟩,?_⟩
 ·have hu:=p1.mem_iff.1 hu;have hv:=p2.mem_iff.1 hv;rcases List.mem_append.1 hu with hu | hu<;>rcases List.mem_append.1 hv with hv | hv
  ·exact hAB u hu v hv
  ·exact hAD u hu v hv
  ·exact hCB u hu v hv
  ·exact hCD u hu v hv
 ·refine(p1.append p2).trans ?_;rw[aA,aA];refine List.Perm.append_left A ?_;rw[<-aA,<-aA];exact List.Perm.append_right D List.perm_append_comm
def Blk (le:α->α->Prop)(n:Nat)(d:List α):Prop:=∀(i j:Nat) (hi:i<d.length) (hj:j<d.length),i<j->i / n=j / n->le d[i] d[j]
theorem Blk.nil {n:Nat}:Blk le n []:=λi j hi=>by simp at hi
theorem Blk.srt {n:Nat}{d:List α}(h:Blk le n d)(hn:d.length<=n):Srt le d :=
 List.pairwise_iff_getElem.2 λi j hi hj hij=>h i j hi hj hij (by rw[Nat.div_eq_of_lt (by omega),Nat.div_eq_of_lt (by omega)])
theorem Blk.take {n:Nat}{x y:List α}(h:Blk le n (x++y)):Blk le n x:=λi j hi hj hij e=>by
 have:=h i j (by rw[lA];omega) (by rw[lA];omega) hij e
 rwa [List.getElem_append_left hi,List.getElem_append_left hj]at this
theorem Blk.drop {n:Nat}{x y:List α}(h:Blk le n (x++y))(hn:0<n)(hx:x.length % n=0):Blk le n y:=λi j hi hj hij e=>by
 have:=h (x.length+i) (x.length+j) (by rw[lA];omega) (by rw[lA];omega) (by omega) (by
  obtain⟨k,hk⟩:=Nat.dvd_of_mod_eq_zero hx;rw[hk,Nat.mul_add_div hn,Nat.mul_add_div hn,e])
 rw[List.getElem_append_right (by omega),List.getElem_append_right (by omega)]at this;simpa only[Nat.add_sub_cancel_left] using this
theorem Blk.app {n:Nat}{x y:List α}(h:Blk le n x)(hn:0<n)(hx:x.length % n=0)(hy:Blk le n y):Blk le n (x++y):=λi j hi hj hij e=>by
 obtain⟨k,hk⟩:=Nat.dvd_of_mod_eq_zero hx;rcases Nat.lt_or_ge j x.length with q | q
 ·rw[List.getElem_append_left (by omega),List.getElem_append_left q];exact h i j (by omega) q hij e
 ·rcases Nat.lt_or_ge i x.length with q' | q'
  ·exfalso;have h1:i / n<k:=by rw[Nat.div_lt_iff_lt_mul hn,Nat.mul_comm];omega
   have h2:k<=j / n:=by rw[Nat.le_div_iff_mul_le hn,Nat.mul_comm];omega
   omega
  ·rw[List.getElem_append_right q',List.getElem_append_right q];rw[lA]at hi hj;refine hy _ _ (by omega) (by omega) (by omega) ?_;have e1:i=n*k+(i-x.length):=by omega
   have e2:j=n*k+(j-x.length):=by omega
   rw[e1,e2,Nat.mul_add_div hn,Nat.mul_add_div hn]at e;omega
theorem Blk.of {n:Nat}{d:List α}(h:Srt le d):Blk le n d:=λi j hi hj hij _=>List.pairwise_iff_getElem.1 h i j hi hj hij
end
end Go.Dn

namespace Go.Dn
open Go Go.RowKit
def ints (l:List Nat):List AV:=l.map λ(n:Nat)=>AV.int .i64 (n:Int)
theorem ints_len (l:List Nat):(ints l).length=l.length:=by simp[ints]
theorem ints_get {l:List Nat}{i n:Nat}(h:l[i]? = some n):(ints l)[i]? = some (.int .i64 (n:Int)):=by simp[ints,h]
theorem ints_el (l:List Nat):∀y∈ints l,El false 1 y:=λy hy=>by
 simp only[ints,List.mem_map]at hy;obtain⟨n,_,rfl⟩:=hy;exact⟨rfl,rfl⟩
theorem ints_set (l:List Nat)(i n:Nat):(ints l).set i (.int .i64 (n:Int))=ints (l.set i n):=by simp[ints,List.map_set]
def ArS (S:St)(R:List Rs)(ty:TypeId)(t b:Nat)(l:List Nat):Prop:=Hs S (R++[.bx b ty ((ints l).flatMap AV.cells++[]),.mk t t b])
abbrev slA (t n:Nat)(xs:List AV):AV:=.sl 1 ⟨some (t,t),0,some n,false⟩ xs
section
variable {S:St}{R:List Rs}{ty:TypeId}{t b:Nat}{l:List Nat}
theorem ArS.hi:(R++[Rs.bx b ty ((ints l).flatMap AV.cells++[]),Rs.mk t t b])[R.length]? = some (.bx b ty ((ints l).flatMap AV.cells++[])):=by simp
theorem ArS.hj:(R++[Rs.bx b ty ((ints l).flatMap AV.cells++[]),Rs.mk t t b])[R.length+1]? = some (.mk t t b):=by simp
theorem ArS.els (h:ArS S R ty t b l){n:Nat}{xs:List AV}(hx:xs.length=l.length):elems S false 1 ⟨some (t,t),0,some n,false⟩ xs=some (ints l):=by
 have:=arr_els h ArS.hi ArS.hj (ints_el l) (off:=0) (cap:=some n) (nl:=false) (xs:=xs) (by rw[ints_len];omega);rw[List.drop_zero,hx,List.take_of_length_le (by rw[ints_len];omega)]at this;exact this
theorem ArS.st (h:ArS S R ty t b l){gt:GT}{d:Option Nat}{env:Env}{a x:DOpd}{n:Nat}{xs:List AV}{k v:Nat}(hx:xs.length=l.length)(ha:loc env a=some (.el 1 ⟨some (t,t),0,some n,false⟩ xs k 0))(hv:opd env x=some (.int .i64 (v:Int)))(hk:k<l.length) :
  ∃S',stepO gt d env S (.st 1 a x)=.done (putV d .undef env) S'/\ArS S' R ty t b (l.set k v):=by
 obtain⟨S',h1,h2⟩:=arr_st h R.length ArS.hi ArS.hj (λy hy=>(ints_el l y hy).1) (gt:=gt) (d:=d) (env:=env) (a:=a) (x:=x) (xs:=xs) (so:=0) (k:=k) (off:=0) (sz:=1) (cap:=some n) (nl:=false) (v:=.int .i64 (v:Int)) (v':=.int .i64 (v:Int)) ha hv rfl (by omega) (by rw[ints_len];omega) (nR 1) (by
  have hc:(ints l)[0+k]'(by rw[ints_len];omega)=.int .i64 ((l[k]:Nat):Int):=by simp[ints]
  rw[hc];rfl)
 refine⟨S',h1,?_⟩;rw[Nat.zero_add,ints_set]at h2;unfold ArS;simpa using h2
end
theorem st_runPD {C:CallT}{gt:GT}{d:Option Nat}{op:DOp}{gd:Option (Nat×Bool)}{l:Option Nat}{env env':Env}{S:St}{P:St->Prop}{K:Env->St->Prop}{Q:Ex->Env->St->Prop}(h:∃S',stepO gt d env S op=.done env' S'/\P S')(hg:Gd env gd)(h0:isLoc op=false)(h1:conform l env op=true)(k:∀S',P S'->K env' S'):afterS C d env S K Q (stepD gt (⟨d,op,gd⟩,l) env S):=by
 obtain⟨S',h2,h3⟩:=h;exact st_anyD hg h0 h1 h2 (k S' h3)
theorem set_mid {α:Type}{P Q:List α}{x y:α}{n:Nat}(h:n=P.length):(P++(x::Q)).set n y=P++(y::Q):=by
 subst h;rw[List.set_append_right _ _ (nR _),Nat.sub_self];rfl
theorem get_mid {α:Type}{P Q:List α}{x:α}{n:Nat}(h:n=P.length):(P++(x::Q))[n]? = some x:=by
 subst h;rw[List.getElem?_append_right (nR _),Nat.sub_self];rfl
end Go.Dn

namespace Go.Dn
open Go Go.Proofs.C1
set_option maxRecDepth 100000
attribute [local irreducible] afterS keepE
section
variable {gt:GT}{C:CallT}{R:List Rs}{ty:TypeId}{t b:Nat}
def SwapC (C:CallT)(R:List Rs)(ty:TypeId)(t b:Nat)(g:AV):Prop :=
 ∀(S:St) (xs:List AV) (P X M Y Q:List Nat) (a c n:Nat),a=P.length->c=P.length+X.length+M.length->n=X.length->xs.length=(P++(X++(M++(Y++Q)))).length->(P++(X++(M++(Y++Q)))).length<4611686018427387904->X.length=Y.length->ArS S R ty t b (P++(X++(M++(Y++Q)))) ->
  C 172 [slA t xs.length xs,.int .i64 a,.int .i64 c,.int .i64 n,g] S λr S'=>r=.ret (.tup [])/\ArS S' R ty t b (P++(Y++(M++(X++Q))))
def RotC (C:CallT)(R:List Rs)(ty:TypeId)(t b:Nat)(g:AV):Prop :=
 ∀(S:St) (xs:List AV) (P X Y Q:List Nat) (a m c:Nat),a=P.length->m=P.length+X.length->c=P.length+X.length+Y.length->X≠[]->Y≠[]->xs.length=(P++(X++(Y++Q))).length->(P++(X++(Y++Q))).length<2305843009213693952->ArS S R ty t b (P++(X++(Y++Q))) ->
  C 156 [slA t xs.length xs,.int .i64 a,.int .i64 m,.int .i64 c,g] S λr S'=>r=.ret (.tup [])/\ArS S' R ty t b (P++(Y++(X++Q)))
abbrev E_sw (t:Nat)(xs:List AV)(a c n i:Nat):Env:=[(0,.val (slA t xs.length xs)),(1,.val (.int .i64 a)),(2,.val (.int .i64 c)),(3,.val (.int .i64 n)),(10,.val (.int .i64 i))]
set_option maxHeartbeats 4000000 in
theorem swap_wp (hm:MonoC C){S:St}{xs:List AV}{P X M Y Q:List Nat}{g:AV}(hx:xs.length=(P++(X++(M++(Y++Q)))).length)(hl:(P++(X++(M++(Y++Q)))).length<4611686018427387904)(hxy:X.length=Y.length)(hA:ArS S R ty t b (P++(X++(M++(Y++Q))))) :
  wpF gt C F172 [slA t xs.length xs,.int .i64 P.length,.int .i64 ((P.length+X.length+M.length:Nat):Int),.int .i64 X.length,g] S λr S'=>r=.ret (.tup [])/\ArS S' R ty t b (P++(Y++(M++(X++Q)))):=by
 have hlen:(P++(X++(M++(Y++Q)))).length=P.length+(X.length+(M.length+(Y.length+Q.length))):=by simp only[lA]
 rw[hlen]at hx hl;refine⟨rfl,?_⟩;refine goW ?_;refine loop_rule hm (α:=Nat×List Nat×List Nat×List Nat×List Nat) (λa env S'=>env=E_sw t xs P.length (P.length+X.length+M.length) X.length a.1/\a.1+a.2.2.1.length=X.length/\a.2.1.length=P.length+a.1/\a.2.2.1.length=a.2.2.2.2.length/\a.2.1.length+a.2.2.1.length+a.2.2.2.1.length=P.length+X.length+M.length+a.1 /\
   ArS S' R ty t b (a.2.1++(a.2.2.1++(a.2.2.2.1++(a.2.2.2.2++Q))))/\P++(Y++(M++(X++Q)))=a.2.1++(a.2.2.2.2++(a.2.2.2.1++(a.2.2.1++Q)))) (λa=>X.length-a.1) ?_ (a:=(0,P,X,M,Y)) ⟨rfl,by simp,by simp,hxy,by simp,hA,rfl⟩
 rintro⟨i,Pi,Xi,Mi,Yi⟩ env S' ⟨rfl,h1,h2,h3,h4,hA,hT⟩;simp only at h1 h2 h3 h4 hA hT;refine goW ?_;by_cases hc:(i:Int)<(X.length:Nat)
 ·rw[dT hc]
  match Xi,Yi,h1,h3,h4,hA,hT with
  | [],_,h1,_,_,_,_=>simp at h1;omega
  | _::_,[],_,h3,_,_,_=>simp at h3
  | x::Xr,y::Yr,h1,h3,h4,hA,hT =>
  simp only[lC]at h1 h3 h4;have hla:(Pi++((x::Xr)++(Mi++((y::Yr)++Q)))).length=xs.length:=by simp only[lA,lC];omega
  have g1:(Pi++((x::Xr)++(Mi++((y::Yr)++Q))))[P.length+i]? = some x:=get_mid (by omega);have g2:(Pi++((x::Xr)++(Mi++((y::Yr)++Q))))[P.length+X.length+M.length+i]? = some y:=by
   rw[show Pi++((x::Xr)++(Mi++((y::Yr)++Q)))=(Pi++((x::Xr)++Mi))++(y::(Yr++Q)) by simp only[aA,List.cons_append]];exact get_mid (by simp only[lA,lC];omega)
  have s1:(Pi++((x::Xr)++(Mi++((y::Yr)++Q)))).set (P.length+i) y=Pi++(y::(Xr++(Mi++((y::Yr)++Q)))):=set_mid (by omega);have s2:(Pi++(y::(Xr++(Mi++((y::Yr)++Q))))).set (P.length+X.length+M.length+i) x=(Pi++[y])++(Xr++((Mi++[x])++(Yr++Q))):=by
   rw[show Pi++(y::(Xr++(Mi++((y::Yr)++Q))))=(Pi++(y::(Xr++Mi)))++(y::(Yr++Q)) by simp only[aA,List.cons_append],set_mid (by simp only[lA,lC];omega)];simp only[aA,List.cons_append,List.nil_append]
  generalize Pi++((x::Xr)++(Mi++((y::Yr)++Q)))=l at hA hla g1 g2 s1;have k1:P.length+i<l.length:=by omega
  have k2:P.length+X.length+M.length+i<l.length:=by omega
  have w1:wr .i64 ((P.length:Int)+(i:Int))=((P.length+i:Nat):Int):=by rw[wr64 (by omega) (by omega)];omega
  have w2:wr .i64 (((P.length+X.length+M.length:Nat):Int)+(i:Int))=((P.length+X.length+M.length+i:Nat):Int):=by rw[wr64 (by omega) (by omega)];omega
  refine goW ?_;rw[w1,w2];refine step_ruleDO rfl rfl (sx_ia (k:=P.length+X.length+M.length+i) rfl rfl (by omega)) (goW ?_);refine step_ruleDO rfl rfl (sx_ldEl (agg:=false) rfl (hA.els hla.symm) (ints_get g2) rfl) (goW ?_);rw[w1];refine step_ruleDO rfl rfl (sx_ia (k:=P.length+i) rfl rfl (by omega)) (goW ?_);refine step_ruleDO rfl rfl (sx_ldEl (agg:=false) rfl (hA.els hla.symm) (ints_get g1) rfl) (goW ?_);refine step_ruleDO rfl rfl (sx_ia (k:=P.length+i) rfl rfl (by omega)) (goW ?_);refine st_runPD (hA.st hla.symm rfl rfl k1) (by trivial) rfl rfl ?_;intro S2 hA;rw[s1]at hA;refine goW ?_;refine step_ruleDO rfl rfl (sx_ia (k:=P.length+X.length+M.length+i) rfl rfl (by omega)) (goW ?_);have hl2:(Pi++(y::(Xr++(Mi++((y::Yr)++Q))))).length=l.length:=by rw[<-s1,List.length_set]
  refine st_runPD (hA.st (by omega) rfl rfl (by omega)) (by trivial) rfl rfl ?_;intro S3 hA;rw[s2]at hA;refine goW ?_;refine⟨(i+1,Pi++[y],Xr,Mi++[x],Yr),⟨?_,by simp only;omega,by simp only[lA,lC,lN];omega,by simp only;omega,by simp only[lA,lC,lN];omega,hA,?_⟩,by simp only;omega⟩
  ·rw[wrNat (by omega)]
  ·rw[hT];simp only[aA,List.cons_append,List.nil_append]
 ·rw[dF hc];have e1:Xi=[]:=nL (by omega);have e2:Yi=[]:=nL (by omega);subst e1;subst e2;refine goW ?_;refine⟨_,rfl,rfl,?_⟩;rw[hT];exact hA
abbrev E_ro (t:Nat)(xs:List AV)(m:Nat)(g:AV)(i j:Nat):Env:=[(0,.val (slA t xs.length xs)),(2,.val (.int .i64 m)),(4,.val g),(10,.val (.int .i64 i)),(11,.val (.int .i64 j))]
set_option maxHeartbeats 4000000 in
theorem rot_wp (hm:MonoC C){f:FuncId}{cs:List AV}(hsw:SwapC C R ty t b (.fn f [] cs)){S:St}{xs:List AV}{P X Y Q:List Nat}(h1:X≠[])(h2:Y≠[])(hx:xs.length=(P++(X++(Y++Q))).length)(hl:(P++(X++(Y++Q))).length<2305843009213693952)(hA:ArS S R ty t b (P++(X++(Y++Q)))) :
  wpF gt C F156 [slA t xs.length xs,.int .i64 P.length,.int .i64 ((P.length+X.length:Nat):Int),.int .i64 ((P.length+X.length+Y.length:Nat):Int),.fn f [] cs] S λr S'=>r=.ret (.tup [])/\ArS S' R ty t b (P++(Y++(X++Q))):=by
 have hlen:(P++(X++(Y++Q))).length=P.length+(X.length+(Y.length+Q.length)):=by simp only[lA]
 rw[hlen]at hx hl;have p1:0<X.length:=List.length_pos_iff.2 h1;have p2:0<Y.length:=List.length_pos_iff.2 h2;refine⟨rfl,?_⟩;refine goW ?_;rw[show wr .i64 (((P.length+X.length:Nat):Int)-(P.length:Int))=(X.length:Int) by rw[wr64 (by omega) (by omega)];omega,show wr .i64 (((P.length+X.length+Y.length:Nat):Int)-((P.length+X.length:Nat):Int))=(Y.length:Int) by rw[wr64 (by omega) (by omega)];omega];refine loop_rule hm (α:=List Nat×List Nat×List Nat×List Nat) (λa env S'=>env=E_ro t xs (P.length+X.length) (.fn f [] cs) a.2.1.length a.2.2.1.length/\0<a.2.1.length/\0<a.2.2.1.length/\a.1.length+a.2.1.length=P.length+X.length/\xs.length=(a.1++(a.2.1++(a.2.2.1++a.2.2.2))).length /\
   ArS S' R ty t b (a.1++(a.2.1++(a.2.2.1++a.2.2.2)))/\P++(Y++(X++Q))=a.1++(a.2.2.1++(a.2.1++a.2.2.2))) (λa=>a.2.1.length+a.2.2.1.length) ?_ (a:=(P,X,Y,Q)) ⟨rfl,p1,p2,rfl,by rw[hlen,hx],hA,rfl⟩
 rintro⟨P',L,U,Q'⟩ env S' ⟨rfl,l1,l2,l3,l4,hA,hT⟩;simp only at l1 l2 l3 l4 hA hT;have hlen':(P'++(L++(U++Q'))).length=P'.length+(L.length+(U.length+Q'.length)):=by simp only[lA]
 have w1:wr .i64 (((P.length+X.length:Nat):Int)-(L.length:Int))=((P'.length:Nat):Int):=by rw[wr64 (by omega) (by omega)];omega
 refine goW ?_;by_cases hne:(L.length:Int)=U.length
 ·rw[neI_false hne];refine goW ?_;rw[w1];refine call_rule (by rfl) (hm _ _ _ _ _ (hsw S' xs P' L [] U Q' P'.length (P.length+X.length) L.length rfl (by simp only[lN];omega) rfl l4 (by simp only[List.nil_append];omega) (by omega) hA) ?_);rintro r S2 ⟨rfl,hA⟩;refine goW ?_;refine⟨_,rfl,rfl,?_⟩;rw[hT];exact hA
 rw[neI_true hne];refine goW ?_;by_cases hgt:(L.length:Int) > U.length
 ·rw[dT hgt];obtain⟨L1,L2,hL,e1,hLl⟩:∃L1 L2,L=L1++L2/\L1.length=U.length/\L1.length+L2.length=L.length:=⟨L.take U.length,L.drop U.length,(tkD _ _).symm,by rw[lT];omega,by rw[lT,lD];omega⟩
  have l5:xs.length=(P'++(L1++(L2++(U++Q')))).length:=by simp only[lA];omega
  rw[hL,aA]at hA hT;refine goW ?_;rw[w1];refine call_rule (by rfl) (hm _ _ _ _ _ (hsw S' xs P' L1 L2 U Q' P'.length (P.length+X.length) U.length rfl (by omega) (by omega) l5 (by rw[<-l5];omega) e1 hA) ?_);rintro r S2 ⟨rfl,hA⟩;refine goW ?_;refine⟨(P'++U,L2,L1,Q'),⟨?_,by simp only;omega,by simp only;omega,by simp only[lA];omega,?_,?_,?_⟩,by simp only;omega⟩
  ·simp only[E_ro];rw[wr64 (by omega) (by omega),show (L.length:Int)-(U.length:Int)=(L2.length:Int) by omega,e1]
   try rfl
  ·simp only[lA];omega
  ·rw[aA];exact hA
  ·rw[hT];simp only[aA]
 ·rw[dF hgt];obtain⟨U1,U2,hU,e1,hUl⟩:∃U1 U2,U=U1++U2/\U2.length=L.length/\U1.length+U2.length=U.length:=⟨U.take (U.length-L.length),U.drop (U.length-L.length),(tkD _ _).symm,by rw[lD];omega,by rw[lT,lD];omega⟩
  have l5:xs.length=(P'++(L++(U1++(U2++Q')))).length:=by simp only[lA];omega
  rw[hU,aA]at hA hT;refine goW ?_;rw[w1,wr64 (n:=((P.length+X.length:Nat):Int)+(U.length:Int)) (by omega) (by omega),show wr .i64 (((P.length+X.length:Nat):Int)+(U.length:Int)-(L.length:Int))=((P.length+X.length+U1.length:Nat):Int) by rw[wr64 (by omega) (by omega)];omega];refine call_rule (by rfl) (hm _ _ _ _ _ (hsw S' xs P' L U1 U2 Q' P'.length (P.length+X.length+U1.length) L.length rfl (by omega) rfl l5 (by rw[<-l5];omega) e1.symm hA) ?_);rintro r S2 ⟨rfl,hA⟩;refine goW ?_;refine⟨(P',U2,U1,L++Q'),⟨?_,by simp only;omega,by simp only;omega,by simp only;omega,?_,hA,?_⟩,by simp only;omega⟩
  ·simp only[E_ro];rw[wr64 (by omega) (by omega),show (U.length:Int)-(L.length:Int)=(U1.length:Int) by omega,e1]
   try rfl
  ·simp only[lA];omega
  ·rw[hT]
end

structure Cz (cz:Nat->Nat->Int):Prop where
 rf:∀a,0<=cz a a
 tr:∀{a b c},0<=cz b a->0<=cz c b->0<=cz c a
 asy:∀{a b},cz a b<0->0<=cz b a
def leZ (cz:Nat->Nat->Int)(a b:Nat):Prop:=0<=cz b a
def CmpC (C:CallT)(f:FuncId)(cs:List AV)(R:List Rs)(ty:TypeId)(t b n:Nat)(cz:Nat->Nat->Int):Prop :=
 ∀(S:St) (l:List Nat) (i j:Nat),ArS S R ty t b l->i<n->j<n->C f (.int .i64 i::.int .i64 j::cs) S λr S'=>r=.ret (.int .i64 (cz i j))/\S'=S
section
variable {gt:GT}{C:CallT}{R:List Rs}{ty:TypeId}{t b:Nat}
def InsC (C:CallT)(R:List Rs)(ty:TypeId)(t b n:Nat)(g:AV)(cz:Nat->Nat->Int):Prop :=
 ∀(S:St) (xs:List AV) (P X Q:List Nat) (a c:Nat),a=P.length->c=P.length+X.length->(∀x∈X,x<n)->xs.length=(P++(X++Q)).length->(P++(X++Q)).length<2305843009213693952->ArS S R ty t b (P++(X++Q)) ->
  C 137 [slA t xs.length xs,.int .i64 a,.int .i64 c,g] S λr S'=>r=.ret (.tup [])/\∃Z,Z.Perm X/\Srt (leZ cz) Z/\ArS S' R ty t b (P++(Z++Q))
abbrev E_in (t:Nat)(xs:List AV)(a c:Nat)(g:AV)(i:Nat):Env:=[(0,.val (slA t xs.length xs)),(1,.val (.int .i64 a)),(2,.val (.int .i64 c)),(3,.val g),(8,.val (.int .i64 i))]
abbrev E_in2 (t:Nat)(xs:List AV)(a c:Nat)(g:AV)(i j:Nat):Env:=[(0,.val (slA t xs.length xs)),(1,.val (.int .i64 a)),(2,.val (.int .i64 c)),(3,.val g),(8,.val (.int .i64 i)),(9,.val (.int .i64 j))]
theorem srt_ins {cz:Nat->Nat->Int}(hz:Cz cz){L U:List Nat}{x:Nat}(h:Srt (leZ cz) (L++U))(h1:∀u∈U,cz x u<0)(h2:∀v,L[L.length-1]? = some v->0<=cz x v):Srt (leZ cz) (L++(x::U)):=by
 obtain⟨a,c,d⟩:=srt_app.1 h;have hL:∀u∈L,leZ cz u x:=λu hu=>by
  have:=ends_le (le:=leZ cz) (λh h'=>hz.tr h h') (x:=L) (y:=[x]) a (List.pairwise_singleton _ _) (λu v e1 e2=>by
   simp only[List.getElem?_cons_zero,oI]at e2;subst e2;exact h2 u e1) (λa=>hz.rf a)
  exact this u hu x (by simp)
 refine srt_app.2 ⟨a,List.pairwise_cons.2 ⟨λu hu=>hz.asy (h1 u hu),c⟩,λu hu v hv=>?_⟩;rcases List.mem_cons.1 hv with rfl | hv
 ·exact hL u hu
 ·exact d u hu v hv
set_option maxHeartbeats 8000000 in
theorem ins_wp (hm:MonoC C){f:FuncId}{cs:List AV}{n:Nat}{cz:Nat->Nat->Int}(hz:Cz cz)(hc:CmpC C f cs R ty t b n cz){S:St}{xs:List AV}{P X Q:List Nat}(hX:∀x∈X,x<n)(hx:xs.length=(P++(X++Q)).length)(hl:(P++(X++Q)).length<2305843009213693952)(hA:ArS S R ty t b (P++(X++Q))) :
  wpF gt C F137 [slA t xs.length xs,.int .i64 P.length,.int .i64 ((P.length+X.length:Nat):Int),.fn f [] cs] S λr S'=>r=.ret (.tup [])/\∃Z,Z.Perm X/\Srt (leZ cz) Z/\ArS S' R ty t b (P++(Z++Q)):=by
 have hlen:(P++(X++Q)).length=P.length+(X.length+Q.length):=by simp only[lA]
 rw[hlen]at hx hl;refine⟨rfl,?_⟩;refine goW ?_;rw[wrNat (by omega)];refine loop_rule hm (α:=List Nat×List Nat×Nat) (λa env S'=>env=E_in t xs P.length (P.length+X.length) (.fn f [] cs) a.2.2/\(a.2.2=P.length+a.1.length\/(a.2.1=[]/\P.length+X.length<=a.2.2/\a.2.2<=P.length+X.length+1))/\(a.1++a.2.1).Perm X/\Srt (leZ cz) a.1/\ArS S' R ty t b (P++(a.1++(a.2.1++Q)))) (λa=>P.length+X.length+1-a.2.2) ?_
  (a:=(X.take 1,X.drop 1,P.length+1)) ⟨rfl,?_,by rw[tkD],?_,by rw[<-aA (X.take 1),tkD];exact hA⟩
 case refine_2 =>
  cases X with
  | nil=>right;exact⟨rfl,by simp,by simp⟩
  | cons x r=>left;simp
 case refine_3 =>
  cases X with
  | nil=>exact List.Pairwise.nil
  | cons x r=>exact List.pairwise_singleton _ _
 rintro⟨Z,W,i⟩ env S' ⟨rfl,hi,hp,hs,hA⟩;simp only at hi hp hs hA;have hpl:=hp.length_eq;rw[lA]at hpl;have hmem:∀x∈Z++W,x<n:=λx hx=>hX x (hp.mem_iff.1 hx);refine goW ?_;by_cases hc1:(i:Int)<((P.length+X.length:Nat):Int)
 ·rw[dT hc1];have hi':i=P.length+Z.length:=by
   rcases hi with h | ⟨h1,h2,h3⟩
   ·exact h
   ·omega
  cases W with
  | nil=>simp only[lN]at hpl;omega
  | cons x W' =>
  simp only[lC]at hpl;have hxn:x<n:=hmem x (by simp);refine goW ?_;refine loop_rule hm (α:=List Nat×List Nat) (λa env S'=>env=E_in2 t xs P.length (P.length+X.length) (.fn f [] cs) i (P.length+a.1.length)/\a.1++a.2=Z/\(∀u∈a.2,cz x u<0)/\ArS S' R ty t b (P++(a.1++(x::(a.2++(W'++Q)))))) (λa=>a.1.length) ?_ (a:=(Z,[])) ⟨by rw[hi'],by simp,λu hu=>by simp at hu,by simpa using hA⟩;rintro⟨L,U⟩ env S2 ⟨rfl,hLU,hU,hA⟩;simp only at hLU hU hA;have hzl:=congrArg List.length hLU;rw[lA]at hzl;have hxl:xs.length=(P++(L++(x::(U++(W'++Q))))).length:=by simp only[lA,lC];omega
  have done:(∀v,L[L.length-1]? = some v->0<=cz x v)->∃a:List Nat×List Nat×Nat,(E_in t xs P.length (P.length+X.length) (.fn f [] cs) (i+1)=E_in t xs P.length (P.length+X.length) (.fn f [] cs) a.2.2/\(a.2.2=P.length+a.1.length\/(a.2.1=[]/\P.length+X.length<=a.2.2/\a.2.2<=P.length+X.length+1))/\(a.1++a.2.1).Perm X/\Srt (leZ cz) a.1/\ArS S2 R ty t b (P++(a.1++(a.2.1++Q))))/\P.length+X.length+1-a.2.2<P.length+X.length+1-i:=λh=>by
   refine⟨(L++(x::U),W',i+1),⟨rfl,.inl (by simp only[lA,lC];omega),?_,?_,?_⟩,by simp only;omega⟩
   ·refine List.Perm.trans ?_ hp;simp only;rw[<-hLU,aA,aA,List.cons_append];exact List.Perm.append_left L (List.perm_middle.symm)
   ·exact srt_ins hz (by rw[hLU];exact hs) hU h
   ·simpa only[aA,List.cons_append] using hA
  refine goW ?_;rcases List.eq_nil_or_concat L with hL | ⟨L',v,hL⟩
  ·subst hL;rw[dF (show ¬((P.length+([]:List Nat).length:Nat):Int) > (P.length:Int) by simp)];have done:=done (λv h=>by simp at h);refine goW ?_;rw[wrNat (by omega)];exact done
  rw[List.concat_eq_append]at hL;subst hL;have hvl:(L'++[v]).length=L'.length+1:=by simp
  rw[hvl]at hzl;have hvn:v<n:=hmem v (by rw[<-hLU];simp);have hA0:=hA;have done:=λ(h:0<=cz x v)=>done (λv' h'=>by
   rw[hvl,Nat.add_sub_cancel,get_mid rfl]at h';cases h';exact h)
  have e1:P++((L'++[v])++(x::(U++(W'++Q))))=(P++L')++(v::(x::(U++(W'++Q)))):=by simp only[aA,List.cons_append,List.nil_append]
  have e2:P++((L'++[v])++(x::(U++(W'++Q))))=(P++(L'++[v]))++(x::(U++(W'++Q))):=by simp only[aA,List.cons_append,List.nil_append]
  have g1:(P++((L'++[v])++(x::(U++(W'++Q)))))[P.length+L'.length]? = some v:=by rw[e1];exact get_mid (by rw[lA])
  have g2:(P++((L'++[v])++(x::(U++(W'++Q)))))[P.length+L'.length+1]? = some x:=by rw[e2];exact get_mid (by simp only[lA,lC,lN];omega)
  have s1:(P++((L'++[v])++(x::(U++(W'++Q))))).set (P.length+L'.length+1) v=(P++L')++(v::(v::(U++(W'++Q)))):=by
   rw[e2,set_mid (by simp only[lA,lC,lN];omega)];simp only[aA,List.cons_append,List.nil_append]
  have s2:((P++L')++(v::(v::(U++(W'++Q))))).set (P.length+L'.length) x=P++(L'++(x::((v::U)++(W'++Q)))):=by
   rw[set_mid (by rw[lA])];simp only[aA,List.cons_append]
  have hls:((P++L')++(v::(v::(U++(W'++Q))))).length=xs.length:=by rw[<-s1,List.length_set,hxl]
  generalize hgl:P++((L'++[v])++(x::(U++(W'++Q))))=l at hA g1 g2 s1 hxl;rw[hvl];have k1:P.length+L'.length<l.length:=by omega
  have k2:P.length+L'.length+1<l.length:=by omega
  have w1:wr .i64 (((P.length+(L'.length+1):Nat):Int)-1)=((P.length+L'.length:Nat):Int):=by rw[wr64 (by omega) (by omega)];omega
  rw[dT (show ((P.length+(L'.length+1):Nat):Int) > (P.length:Int) by omega)];refine goW ?_;refine st_anyD (by exact rfl) rfl rfl (sx_ia (k:=P.length+L'.length+1) rfl rfl (by omega)) (goW ?_);refine st_anyD (by exact rfl) rfl rfl (sx_ldEl (agg:=false) rfl (hA.els hxl) (ints_get g2) rfl) (goW ?_);rw[w1];refine st_anyD (by exact rfl) rfl rfl (sx_ia (k:=P.length+L'.length) rfl rfl (by omega)) (goW ?_);refine st_anyD (by exact rfl) rfl rfl (sx_ldEl (agg:=false) rfl (hA.els hxl) (ints_get g1) rfl) (goW ?_);refine call_ruleD (by rfl) (hm _ _ _ _ _ (hc S2 l x v hA hxn hvn) ?_);rintro r S3 ⟨rfl,rfl⟩;refine goW ?_;by_cases hlt:cz x v<0
  case neg =>
   rw[dF hlt];have done:=done (by omega);refine goW ?_;rw[wrNat (by omega)];exact done
  rw[dT hlt];refine goW ?_;rw[w1];refine step_ruleDO rfl rfl (sx_ia (k:=P.length+L'.length) rfl rfl (by omega)) (goW ?_);refine step_ruleDO rfl rfl (sx_ldEl (agg:=false) rfl (hA.els hxl) (ints_get g1) rfl) (goW ?_);refine step_ruleDO rfl rfl (sx_ia (k:=P.length+L'.length+1) rfl rfl (by omega)) (goW ?_);refine step_ruleDO rfl rfl (sx_ldEl (agg:=false) rfl (hA.els hxl) (ints_get g2) rfl) (goW ?_);refine step_ruleDO rfl rfl (sx_ia (k:=P.length+L'.length+1) rfl rfl (by omega)) (goW ?_);refine st_runPD (hA.st hxl rfl rfl k2) (by trivial) rfl rfl ?_;intro S4 hA;rw[s1]at hA;refine goW ?_;refine step_ruleDO rfl rfl (sx_ia (k:=P.length+L'.length) rfl rfl (by omega)) (goW ?_);refine st_runPD (hA.st hls.symm rfl rfl (by omega)) (by trivial) rfl rfl ?_;intro S5 hA;rw[s2]at hA;refine goW ?_;refine⟨(L',v::U),⟨?_,by rw[<-hLU];simp,λu hu=>?_,hA⟩,by simp only[hvl];omega⟩
  ·rw[w1]
  ·rcases List.mem_cons.1 hu with rfl | hu
   ·exact hlt
   ·exact hU u hu
 ·rw[dF hc1];have hW:W=[]:=by
   rcases hi with h | ⟨h1,_⟩
   ·exact nL (by omega)
   ·exact h1
  subst hW;rw[List.append_nil]at hp;refine goW ?_;exact⟨_,rfl,rfl,Z,hp,hs,by simpa using hA⟩
end

theorem ltZ_le {cz:Nat->Nat->Int}(hz:Cz cz){u y x:Nat}(h:leZ cz u y)(h1:cz y x<0):cz u x<0:=by
 rcases Int.lt_or_le (cz u x) 0 with q | q
 ·exact q
 ·have:0<=cz y x:=hz.tr (a:=x) (b:=u) (c:=y) q h;omega
theorem srt_take_le {cz:Nat->Nat->Int}(hz:Cz cz){Y:List Nat}(h:Srt (leZ cz) Y){k:Nat}(hk:k<Y.length):∀u∈Y.take (k+1),leZ cz u Y[k]:=by
 intro u hu;obtain⟨i,hi,rfl⟩:=List.mem_iff_getElem.1 hu;rw[lT]at hi;rw[List.getElem_take];rcases Nat.lt_or_ge i k with q | q
 ·exact List.pairwise_iff_getElem.1 h i k (by omega) hk q
 ·have:i=k:=by omega
  subst this;exact hz.rf _
theorem srt_drop_ge {cz:Nat->Nat->Int}(hz:Cz cz){Y:List Nat}(h:Srt (leZ cz) Y){k:Nat}(hk:k<Y.length):∀u∈Y.drop k,leZ cz Y[k] u:=by
 intro u hu;obtain⟨i,hi,rfl⟩:=List.mem_iff_getElem.1 hu;rw[lD]at hi;rw[List.getElem_drop];rcases Nat.eq_zero_or_pos i with q | q
 ·subst q;exact hz.rf _
 ·exact List.pairwise_iff_getElem.1 h k (k+i) hk (by omega) (by omega)
theorem srt_put {cz:Nat->Nat->Int}{Y:List Nat}{x p:Nat}(h:Srt (leZ cz) Y)(h1:∀u∈Y.take p,leZ cz u x)(h2:∀u∈Y.drop p,leZ cz x u):Srt (leZ cz) (Y.take p++(x::Y.drop p)):=by
 rw[<-tkD p Y]at h;obtain⟨a,c,d⟩:=srt_app.1 h;refine srt_app.2 ⟨a,List.pairwise_cons.2 ⟨h2,c⟩,λu hu v hv=>?_⟩;rcases List.mem_cons.1 hv with rfl | hv
 ·exact h1 u hu
 ·exact d u hu v hv
theorem midW {i j:Nat}(h:i+j<9223372036854775808):wr .i64 ((wr .u64 (wr .i64 ((i:Int)+(j:Int)))).fdiv (2 ^ (min (Int.toNat 1) (IntKind.bits .u64))))=(((i+j) / 2:Nat):Int):=by
 rw[wr64 (n:=(i:Int)+(j:Int)) (by omega) (by omega),wr_eq .u64,show IntKind.u64.wrap ((i:Int)+(j:Int))=((i+j:Nat):Int) by
  have:∀n:Int,IntKind.u64.wrap n=n % 18446744073709551616:=λn=>by simp[IntKind.wrap,IntKind.bits,IntKind.signed]
  rw[this];omega]
 rw[show min (Int.toNat 1) (IntKind.bits .u64)=1 by decide,show ((2:Int) ^ 1)=2 by decide,Int.fdiv_eq_ediv_of_nonneg _ (by decide),wr64 (by omega) (by omega)];omega
section
variable {gt:GT}{C:CallT}{R:List Rs}{ty:TypeId}{t b:Nat}
def MrgC (C:CallT)(R:List Rs)(ty:TypeId)(t b n:Nat)(g:AV)(cz:Nat->Nat->Int)(k:Nat):Prop :=
 ∀(S:St) (xs:List AV) (P X Y Q:List Nat) (a m c:Nat),X.length+Y.length<=k->a=P.length->m=P.length+X.length->c=P.length+X.length+Y.length->X≠[]->Y≠[]->(∀x∈X++Y,x<n)->Srt (leZ cz) X->Srt (leZ cz) Y->xs.length=(P++(X++(Y++Q))).length->(P++(X++(Y++Q))).length<1152921504606846976->ArS S R ty t b (P++(X++(Y++Q))) ->
  C 138 [slA t xs.length xs,.int .i64 a,.int .i64 m,.int .i64 c,g] S λr S'=>r=.ret (.tup [])/\∃Z,Z.Perm (X++Y)/\Srt (leZ cz) Z/\ArS S' R ty t b (P++(Z++Q))
abbrev E_m1 (t:Nat)(xs:List AV)(a:Nat)(g:AV)(i j:Nat):Env:=[(0,.val (slA t xs.length xs)),(1,.val (.int .i64 a)),(4,.val g),(10,.val (.int .i64 i)),(11,.val (.int .i64 j))]
abbrev E_m1b (t:Nat)(xs:List AV)(i k:Nat):Env:=[(0,.val (slA t xs.length xs)),(10,.val (.int .i64 i)),(13,.val (.int .i64 k))]
set_option maxHeartbeats 8000000 in
theorem mrg1_wp (hm:MonoC C){f:FuncId}{cs:List AV}{n:Nat}{cz:Nat->Nat->Int}(hz:Cz cz)(hc:CmpC C f cs R ty t b n cz){S:St}{xs:List AV}{P Y Q:List Nat}{x:Nat}(hY:∀y∈Y,y<n)(hxn:x<n)(hs:Srt (leZ cz) Y)(hx:xs.length=(P++(x::(Y++Q))).length)(hl:(P++(x::(Y++Q))).length<1152921504606846976)(hA:ArS S R ty t b (P++(x::(Y++Q)))) :
  wpF gt C F138 [slA t xs.length xs,.int .i64 P.length,.int .i64 ((P.length+1:Nat):Int),.int .i64 ((P.length+1+Y.length:Nat):Int),.fn f [] cs] S λr S'=>r=.ret (.tup [])/\∃Z,Z.Perm (x::Y)/\Srt (leZ cz) Z/\ArS S' R ty t b (P++(Z++Q)):=by
 have hlen:(P++(x::(Y++Q))).length=P.length+(Y.length+Q.length+1):=by simp only[lA,lC]
 rw[hlen]at hl;refine⟨rfl,?_⟩;refine goW ?_;rw[show wr .i64 (((P.length+1:Nat):Int)-(P.length:Int))=1 by rw[wr64 (by omega) (by omega)];omega];refine goW ?_;refine loop_rule hm (α:=Nat×Nat) (λa env S'=>env=E_m1 t xs P.length (.fn f [] cs) (P.length+1+a.1) (P.length+1+a.2)/\a.1<=a.2/\a.2<=Y.length/\S'=S/\(∀u∈Y.take a.1,cz u x<0)/\(∀u∈Y.drop a.2,0<=cz u x)) (λa=>a.2-a.1) ?_ (a:=(0,Y.length)) ⟨rfl,Nat.zero_le _,nR _,rfl,by simp,by simp⟩;rintro⟨i,j⟩ env S' ⟨rfl,h1,h2,rfl,h3,h4⟩;simp only at h1 h2 h3 h4;refine goW ?_;by_cases hij:((P.length+1+i:Nat):Int)<((P.length+1+j:Nat):Int)
 ·rw[dT hij];obtain⟨r,hr⟩:∃r,r=(i+j) / 2:=⟨_,rfl⟩
  have hri:i<=r:=by omega
  have hrj:r<j:=by omega
  have hrY:r<Y.length:=by omega
  have g0:(P++(x::(Y++Q)))[P.length]? = some x:=get_mid rfl;have g1:(P++(x::(Y++Q)))[P.length+1+r]? = some Y[r]:=by
   rw[List.getElem?_append_right (by omega),show P.length+1+r-P.length=r+1 by omega,List.getElem?_cons_succ,List.getElem?_append_left hrY];exact gE hrY
  have hcall:=hc S' _ Y[r] x hA (hY _ (List.getElem_mem hrY)) hxn;have t1:=srt_take_le hz hs hrY;have t2:=srt_drop_ge hz hs hrY;generalize Y[r]=y at g1 hcall t1 t2;refine goW ?_;rw[midW (by omega),show (P.length+1+i+(P.length+1+j)) / 2=P.length+1+r by omega];refine step_ruleDO rfl rfl (sx_ia (k:=P.length+1+r) rfl rfl (by omega)) (goW ?_);refine step_ruleDO rfl rfl (sx_ldEl (agg:=false) rfl (hA.els hx) (ints_get g1) rfl) (goW ?_);refine step_ruleDO rfl rfl (sx_ia (k:=P.length) rfl rfl (by omega)) (goW ?_);refine step_ruleDO rfl rfl (sx_ldEl (agg:=false) rfl (hA.els hx) (ints_get g0) rfl) (goW ?_);refine call_ruleD (by rfl) (hm _ _ _ _ _ hcall ?_);rintro r' S3 ⟨rfl,rfl⟩;refine goW ?_;by_cases hlt:cz y x<0
  ·rw[dT hlt];refine goW ?_;refine⟨(r+1,j),⟨?_,by simp only;omega,h2,rfl,λu hu=>ltZ_le hz (t1 u hu) hlt,h4⟩,by simp only;omega⟩;rw[wrNat (by omega)]
   try rfl
  ·rw[dF hlt];refine goW ?_;refine⟨(i,r),⟨rfl,hri,by simp only;omega,rfl,h3,λu hu=>?_⟩,by simp only;omega⟩;exact hz.tr (a:=x) (b:=y) (c:=u) (by omega) (t2 u hu)
 ·rw[dF hij];obtain rfl:i=j:=by omega
  clear h1 hij
  refine goW ?_;refine loop_rule hm (α:=Nat) (λr env S'=>env=E_m1b t xs (P.length+1+i) (P.length+r)/\r<=i/\ArS S' R ty t b (P++(Y.take r++(x::(Y.drop r++Q))))) (λr=>i-r) ?_ (a:=0) ⟨rfl,Nat.zero_le _,by simpa using hA⟩;rintro r env S2 ⟨rfl,hri,hA⟩;have hxr:xs.length=(P++(Y.take r++(x::(Y.drop r++Q)))).length:=by rw[hx];simp only[lA,lC,lT,lD];omega
  refine goW ?_;rw[show wr .i64 (((P.length+1+i:Nat):Int)-1)=((P.length+i:Nat):Int) by rw[wr64 (by omega) (by omega)];omega];by_cases hlt:((P.length+r:Nat):Int)<((P.length+i:Nat):Int)
  ·rw[dT hlt];have hrY:r<Y.length:=by omega
   have hd:Y.drop r=Y[r]::Y.drop (r+1):=dC hrY;have htk:Y.take (r+1)=Y.take r++[Y[r]]:=tS hrY;have hltk:(Y.take r).length=r:=by rw[lT];omega
   rw[hd]at hA hxr;generalize Y[r]=y at hA hxr htk
   clear hd
   have g0:(P++(Y.take r++(x::((y::Y.drop (r+1))++Q))))[P.length+r]? = some x:=by rw[<-aA];exact get_mid (by rw[lA];omega)
   have g1:(P++(Y.take r++(x::((y::Y.drop (r+1))++Q))))[P.length+r+1]? = some y:=by
    rw[show P++(Y.take r++(x::((y::Y.drop (r+1))++Q)))=(P++(Y.take r++[x]))++(y::(Y.drop (r+1)++Q)) by simp only[aA,List.cons_append,List.nil_append]];exact get_mid (by simp only[lA,lC,lN];omega)
   have s1:(P++(Y.take r++(x::((y::Y.drop (r+1))++Q)))).set (P.length+r) y=(P++Y.take r)++(y::((y::Y.drop (r+1))++Q)):=by rw[<-aA];exact set_mid (by rw[lA];omega)
   have s2:((P++Y.take r)++(y::((y::Y.drop (r+1))++Q))).set (P.length+r+1) x=P++(Y.take (r+1)++(x::(Y.drop (r+1)++Q))):=by
    rw[show (P++Y.take r)++(y::((y::Y.drop (r+1))++Q))=(P++(Y.take r++[y]))++(y::(Y.drop (r+1)++Q)) by simp only[aA,List.cons_append,List.nil_append],set_mid (by simp only[lA,lC,lN];omega),htk];simp only[aA,List.cons_append,List.nil_append]
   have hl1:((P++Y.take r)++(y::((y::Y.drop (r+1))++Q))).length=xs.length:=by rw[<-s1,List.length_set,hxr]
   generalize P++(Y.take r++(x::((y::Y.drop (r+1))++Q)))=l at hA g0 g1 s1 hxr;refine goW ?_;rw[wrNat (by omega)];refine step_ruleDO rfl rfl (sx_ia (k:=P.length+r+1) rfl rfl (by omega)) (goW ?_);refine step_ruleDO rfl rfl (sx_ldEl (agg:=false) rfl (hA.els hxr) (ints_get g1) rfl) (goW ?_);refine step_ruleDO rfl rfl (sx_ia (k:=P.length+r) rfl rfl (by omega)) (goW ?_);refine step_ruleDO rfl rfl (sx_ldEl (agg:=false) rfl (hA.els hxr) (ints_get g0) rfl) (goW ?_);refine step_ruleDO rfl rfl (sx_ia (k:=P.length+r) rfl rfl (by omega)) (goW ?_);refine st_runPD (hA.st hxr rfl rfl (by omega)) (by trivial) rfl rfl ?_;intro S4 hA;rw[s1]at hA;refine goW ?_;refine step_ruleDO rfl rfl (sx_ia (k:=P.length+r+1) rfl rfl (by omega)) (goW ?_);refine st_runPD (hA.st hl1.symm rfl rfl (by omega)) (by trivial) rfl rfl ?_;intro S5 hA;rw[s2]at hA;refine goW ?_;refine⟨r+1,⟨?_,by omega,hA⟩,by omega⟩;rw[wrNat (by omega)]
   try rfl
  ·rw[dF hlt];obtain rfl:r=i:=by omega
   refine goW ?_;refine⟨_,rfl,rfl,Y.take r++(x::Y.drop r),?_,srt_put hs (λu hu=>hz.asy (h3 u hu)) (λu hu=>h4 u hu),by simpa only[aA,List.cons_append] using hA⟩;have:=List.perm_middle (a:=x) (l₁:=Y.take r) (l₂:=Y.drop r)
   rwa [tkD]at this
end

section
variable {gt:GT}{C:CallT}{R:List Rs}{ty:TypeId}{t b:Nat}
abbrev E_m2 (t:Nat)(xs:List AV)(m:Nat)(g:AV)(i j:Nat):Env:=[(0,.val (slA t xs.length xs)),(2,.val (.int .i64 m)),(4,.val g),(14,.val (.int .i64 i)),(15,.val (.int .i64 j))]
abbrev E_m2b (t:Nat)(xs:List AV)(i k:Nat):Env:=[(0,.val (slA t xs.length xs)),(14,.val (.int .i64 i)),(17,.val (.int .i64 k))]
set_option maxHeartbeats 8000000 in
theorem mrg2_wp (hm:MonoC C){f:FuncId}{cs:List AV}{n:Nat}{cz:Nat->Nat->Int}(hz:Cz cz)(hc:CmpC C f cs R ty t b n cz){S:St}{xs:List AV}{P Y Q:List Nat}{x:Nat}(hY:∀y∈Y,y<n)(hxn:x<n)(hs:Srt (leZ cz) Y)(h2:2<=Y.length)(hx:xs.length=(P++(Y++(x::Q))).length)(hl:(P++(Y++(x::Q))).length<1152921504606846976)(hA:ArS S R ty t b (P++(Y++(x::Q)))) :
  wpF gt C F138 [slA t xs.length xs,.int .i64 P.length,.int .i64 ((P.length+Y.length:Nat):Int),.int .i64 ((P.length+Y.length+1:Nat):Int),.fn f [] cs] S λr S'=>r=.ret (.tup [])/\∃Z,Z.Perm (Y++[x])/\Srt (leZ cz) Z/\ArS S' R ty t b (P++(Z++Q)):=by
 have hlen:(P++(Y++(x::Q))).length=P.length+(Y.length+(Q.length+1)):=by simp only[lA,lC]
 rw[hlen]at hl;refine⟨rfl,?_⟩;refine goW ?_;rw[show wr .i64 (((P.length+Y.length:Nat):Int)-(P.length:Int))=(Y.length:Int) by rw[wr64 (by omega) (by omega)];omega,eqI_false (show ¬(Y.length:Int)=1 by omega)];refine goW ?_;rw[show wr .i64 (((P.length+Y.length+1:Nat):Int)-((P.length+Y.length:Nat):Int))=1 by rw[wr64 (by omega) (by omega)];omega];refine goW ?_;refine loop_rule hm (α:=Nat×Nat) (λa env S'=>env=E_m2 t xs (P.length+Y.length) (.fn f [] cs) (P.length+a.1) (P.length+a.2)/\a.1<=a.2/\a.2<=Y.length/\S'=S/\(∀u∈Y.take a.1,0<=cz x u)/\(∀u∈Y.drop a.2,cz x u<0)) (λa=>a.2-a.1) ?_ (a:=(0,Y.length)) ⟨rfl,Nat.zero_le _,nR _,rfl,by simp,by simp⟩;rintro⟨i,j⟩ env S' ⟨rfl,h1,h2',rfl,h3,h4⟩;simp only at h1 h2' h3 h4;refine goW ?_;by_cases hij:((P.length+i:Nat):Int)<((P.length+j:Nat):Int)
 ·rw[dT hij];obtain⟨r,hr⟩:∃r,r=(i+j) / 2:=⟨_,rfl⟩
  have hri:i<=r:=by omega
  have hrj:r<j:=by omega
  have hrY:r<Y.length:=by omega
  have g0:(P++(Y++(x::Q)))[P.length+Y.length]? = some x:=by rw[<-aA];exact get_mid (by rw[lA])
  have g1:(P++(Y++(x::Q)))[P.length+r]? = some Y[r]:=by
   rw[List.getElem?_append_right (by omega),show P.length+r-P.length=r by omega,List.getElem?_append_left hrY];exact gE hrY
  have hcall:=hc S' _ x Y[r] hA hxn (hY _ (List.getElem_mem hrY));have t1:=srt_take_le hz hs hrY;have t2:=srt_drop_ge hz hs hrY;generalize Y[r]=y at g1 hcall t1 t2;refine goW ?_;rw[midW (by omega),show (P.length+i+(P.length+j)) / 2=P.length+r by omega];refine step_ruleDO rfl rfl (sx_ia (k:=P.length+Y.length) rfl rfl (by omega)) (goW ?_);refine step_ruleDO rfl rfl (sx_ldEl (agg:=false) rfl (hA.els hx) (ints_get g0) rfl) (goW ?_);refine step_ruleDO rfl rfl (sx_ia (k:=P.length+r) rfl rfl (by omega)) (goW ?_);refine step_ruleDO rfl rfl (sx_ldEl (agg:=false) rfl (hA.els hx) (ints_get g1) rfl) (goW ?_);refine call_ruleD (by rfl) (hm _ _ _ _ _ hcall ?_);rintro r' S3 ⟨rfl,rfl⟩;refine goW ?_;by_cases hlt:cz x y<0
  ·rw[dT hlt];refine goW ?_;refine⟨(i,r),⟨rfl,hri,by simp only;omega,rfl,h3,λu hu=>?_⟩,by simp only;omega⟩;rcases Int.lt_or_le (cz x u) 0 with q | q
   ·exact q
   ·have:0<=cz x y:=hz.tr (a:=y) (b:=u) (c:=x) (t2 u hu) q;omega
  ·rw[dF hlt];refine goW ?_;refine⟨(r+1,j),⟨?_,by simp only;omega,h2',rfl,λu hu=>?_,h4⟩,by simp only;omega⟩
   ·rw[wrNat (by omega)]
    try rfl
   ·exact hz.tr (a:=u) (b:=y) (c:=x) (t1 u hu) (by omega)
 ·rw[dF hij];obtain rfl:i=j:=by omega
  clear h1 hij
  refine goW ?_;refine loop_rule hm (α:=Nat) (λr env S'=>env=E_m2b t xs (P.length+i) (P.length+r)/\i<=r/\r<=Y.length/\ArS S' R ty t b (P++(Y.take r++(x::(Y.drop r++Q))))) (λr=>r) ?_ (a:=Y.length) ⟨rfl,h2',nR _,by simpa using hA⟩;rintro r env S2 ⟨rfl,hri,hrY,hA⟩;have hxr:xs.length=(P++(Y.take r++(x::(Y.drop r++Q)))).length:=by rw[hx];simp only[lA,lC,lT,lD];omega
  refine goW ?_;by_cases hlt:((P.length+r:Nat):Int) > ((P.length+i:Nat):Int)
  ·rw[dT hlt];obtain⟨q,rfl⟩:∃q,r=q+1:=⟨r-1,by omega⟩
   have hqY:q<Y.length:=by omega
   have hd:Y.drop q=Y[q]::Y.drop (q+1):=dC hqY;have htk:Y.take (q+1)=Y.take q++[Y[q]]:=tS hqY;have hltk:(Y.take q).length=q:=by rw[lT];omega
   rw[htk]at hA hxr;generalize Y[q]=y at hA hxr hd
   clear htk
   have g0:(P++((Y.take q++[y])++(x::(Y.drop (q+1)++Q))))[P.length+q+1]? = some x:=by
    rw[<-aA];exact get_mid (by simp only[lA,lC,lN];omega)
   have g1:(P++((Y.take q++[y])++(x::(Y.drop (q+1)++Q))))[P.length+q]? = some y:=by
    rw[show P++((Y.take q++[y])++(x::(Y.drop (q+1)++Q)))=(P++Y.take q)++(y::(x::(Y.drop (q+1)++Q))) by simp only[aA,List.cons_append,List.nil_append]];exact get_mid (by rw[lA];omega)
   have s1:(P++((Y.take q++[y])++(x::(Y.drop (q+1)++Q)))).set (P.length+q+1) y=(P++Y.take q)++(y::(y::(Y.drop (q+1)++Q))):=by
    rw[<-aA,set_mid (by simp only[lA,lC,lN];omega)];simp only[aA,List.cons_append,List.nil_append]
   have s2:((P++Y.take q)++(y::(y::(Y.drop (q+1)++Q)))).set (P.length+q) x=P++(Y.take q++(x::(Y.drop q++Q))):=by
    rw[set_mid (by rw[lA];omega),hd];simp only[aA,List.cons_append]
   have hl1:((P++Y.take q)++(y::(y::(Y.drop (q+1)++Q)))).length=xs.length:=by rw[<-s1,List.length_set,hxr]
   generalize P++((Y.take q++[y])++(x::(Y.drop (q+1)++Q)))=l at hA g0 g1 s1 hxr;have w1:wr .i64 (((P.length+(q+1):Nat):Int)-1)=((P.length+q:Nat):Int):=by rw[wr64 (by omega) (by omega)];omega
   refine goW ?_;rw[w1];refine step_ruleDO rfl rfl (sx_ia (k:=P.length+q) rfl rfl (by omega)) (goW ?_);refine step_ruleDO rfl rfl (sx_ldEl (agg:=false) rfl (hA.els hxr) (ints_get g1) rfl) (goW ?_);refine step_ruleDO rfl rfl (sx_ia (k:=P.length+q+1) rfl rfl (by omega)) (goW ?_);refine step_ruleDO rfl rfl (sx_ldEl (agg:=false) rfl (hA.els hxr) (ints_get g0) rfl) (goW ?_);refine step_ruleDO rfl rfl (sx_ia (k:=P.length+q+1) rfl rfl (by omega)) (goW ?_);refine st_runPD (hA.st hxr rfl rfl (by omega)) (by trivial) rfl rfl ?_;intro S4 hA;rw[s1]at hA;refine goW ?_;refine step_ruleDO rfl rfl (sx_ia (k:=P.length+q) rfl rfl (by omega)) (goW ?_);refine st_runPD (hA.st hl1.symm rfl rfl (by omega)) (by trivial) rfl rfl ?_;intro S5 hA;rw[s2]at hA;refine goW ?_;refine⟨q,⟨?_,by omega,by omega,hA⟩,by omega⟩;rw[w1]
  ·rw[dF hlt];obtain rfl:r=i:=by omega
   refine goW ?_;refine⟨_,rfl,rfl,Y.take r++(x::Y.drop r),?_,srt_put hs (λu hu=>h3 u hu) (λu hu=>hz.asy (h4 u hu)),by simpa only[aA,List.cons_append] using hA⟩;have:=List.perm_middle (a:=x) (l₁:=Y.take r) (l₂:=Y.drop r);rw[tkD]at this;exact this.trans (List.perm_append_singleton x Y).symm
end

section
variable {gt:GT}{C:CallT}{R:List Rs}{ty:TypeId}{t b:Nat}
set_option maxHeartbeats 8000000 in
theorem mrgLast_wp (hm:MonoC C){f:FuncId}{cs:List AV}{n k:Nat}{cz:Nat->Nat->Int}(ih:MrgC C R ty t b n (.fn f [] cs) cz k){S:St}{xs:List AV}{P B D Q:List Nat}{mid e c:Nat}{z:Env}{G:St->Prop}
  (h1:mid=P.length) (h2:e=P.length+B.length) (h3:c=P.length+B.length+D.length) (hk:B≠[]->D≠[]->B.length+D.length<=k) (hn:∀x∈B++D,x<n) (hB:Srt (leZ cz) B) (hD:Srt (leZ cz) D)
  (hx:xs.length=(P++(B++(D++Q))).length) (hl:(P++(B++(D++Q))).length<1152921504606846976) (hA:ArS S R ty t b (P++(B++(D++Q))))
  (fin:∀S' Z,Z.Perm (B++D)->Srt (leZ cz) Z->ArS S' R ty t b (P++(Z++Q))->G S') :
  wpD gt C F138.body.rt.rt.rt.rt.rt.rt.rt.rt.rt.rt.rt ((0,.val (slA t xs.length xs))::(3,.val (.int .i64 c))::(4,.val (.fn f [] cs))::(18,.val (.int .i64 mid))::(24,.val (.int .i64 e))::z) S (bodyQ gt F138.res λr S'=>r=.ret (.tup [])/\G S'):=by
 have triv:(B=[]\/D=[])->G S:=λh=>fin S (B++D) (List.Perm.refl _) (by rcases h with rfl | rfl;exact hD;rw[List.append_nil];exact hB) (by rw[aA];exact hA)
 conv=>whnf
 refine goW ?_;by_cases c1:(mid:Int)<(e:Int)
 ·rw[dT c1];refine goW ?_;by_cases c2:(e:Int)<(c:Int)
  ·rw[dT c2];have b1:B≠[]:=λh=>by rw[h]at h2;simp at h2;omega
   have b2:D≠[]:=λh=>by rw[h]at h3;simp at h3;omega
   refine goW ?_;refine call_rule (by rfl) (hm _ _ _ _ _ (ih S xs P B D Q mid e c (hk b1 b2) h1 h2 h3 b1 b2 hn hB hD hx hl hA) ?_);rintro r S2 ⟨rfl,Z,z1,z2,z3⟩;refine goW ?_;exact⟨_,rfl,rfl,fin S2 Z z1 z2 z3⟩
  ·rw[dF c2];have:D=[]:=nL (by omega);refine goW ?_;exact⟨_,rfl,rfl,triv (.inr this)⟩
 ·rw[dF c1];have:B=[]:=nL (by omega);refine goW ?_;exact⟨_,rfl,rfl,triv (.inl this)⟩
set_option maxHeartbeats 8000000 in
theorem mrgLast2_wp (hm:MonoC C){f:FuncId}{cs:List AV}{n k:Nat}{cz:Nat->Nat->Int}(ih:MrgC C R ty t b n (.fn f [] cs) cz k){S:St}{xs:List AV}{P B D Q:List Nat}{mid e c:Nat}{o1 o2:Ent}{z:Env}{G:St->Prop}
  (h1:mid=P.length) (h2:e=P.length+B.length) (h3:c=P.length+B.length+D.length) (hk:B≠[]->D≠[]->B.length+D.length<=k) (hn:∀x∈B++D,x<n) (hB:Srt (leZ cz) B) (hD:Srt (leZ cz) D)
  (hx:xs.length=(P++(B++(D++Q))).length) (hl:(P++(B++(D++Q))).length<1152921504606846976) (hA:ArS S R ty t b (P++(B++(D++Q))))
  (fin:∀S' Z,Z.Perm (B++D)->Srt (leZ cz) Z->ArS S' R ty t b (P++(Z++Q))->G S') :
  wpD gt C F138.body.rt.rt.rt.rt.rt.rt.rt.rt.rt.rt.rt ((0,.val (slA t xs.length xs))::(1,o1)::(3,.val (.int .i64 c))::(4,.val (.fn f [] cs))::(18,.val (.int .i64 mid))::(20,o2)::(24,.val (.int .i64 e))::z) S (bodyQ gt F138.res λr S'=>r=.ret (.tup [])/\G S'):=by
 have triv:(B=[]\/D=[])->G S:=λh=>fin S (B++D) (List.Perm.refl _) (by rcases h with rfl | rfl;exact hD;rw[List.append_nil];exact hB) (by rw[aA];exact hA)
 conv=>whnf
 refine goW ?_;by_cases c1:(mid:Int)<(e:Int)
 ·rw[dT c1];refine goW ?_;by_cases c2:(e:Int)<(c:Int)
  ·rw[dT c2];have b1:B≠[]:=λh=>by rw[h]at h2;simp at h2;omega
   have b2:D≠[]:=λh=>by rw[h]at h3;simp at h3;omega
   refine goW ?_;refine call_rule (by rfl) (hm _ _ _ _ _ (ih S xs P B D Q mid e c (hk b1 b2) h1 h2 h3 b1 b2 hn hB hD hx hl hA) ?_);rintro r S2 ⟨rfl,Z,z1,z2,z3⟩;refine goW ?_;exact⟨_,rfl,rfl,fin S2 Z z1 z2 z3⟩
  ·rw[dF c2];have:D=[]:=nL (by omega);refine goW ?_;exact⟨_,rfl,rfl,triv (.inr this)⟩
 ·rw[dF c1];have:B=[]:=nL (by omega);refine goW ?_;exact⟨_,rfl,rfl,triv (.inl this)⟩
set_option maxHeartbeats 8000000 in
theorem mrgFirst_wp (hm:MonoC C){f:FuncId}{cs:List AV}{n k:Nat}{cz:Nat->Nat->Int}(ih:MrgC C R ty t b n (.fn f [] cs) cz k){S:St}{xs:List AV}{P A V B D Q:List Nat}{a mid s e c:Nat}{z:Env}{G:St->Prop}
  (h0:a=P.length) (h1:mid=P.length+A.length+V.length) (h2:s=P.length+A.length) (h3:e=mid+B.length) (h4:c=e+D.length) (hk1:A≠[]->V≠[]->A.length+V.length<=k) (hk2:B≠[]->D≠[]->B.length+D.length<=k)
  (hn:∀x∈(A++V)++(B++D),x<n) (sA:Srt (leZ cz) A) (sV:Srt (leZ cz) V) (sB:Srt (leZ cz) B) (sD:Srt (leZ cz) D)
  (hx:xs.length=(P++(A++(V++(B++(D++Q))))).length) (hl:(P++(A++(V++(B++(D++Q))))).length<1152921504606846976) (hA:ArS S R ty t b (P++(A++(V++(B++(D++Q))))))
  (fin:∀S' Z1 Z2,Z1.Perm (A++V)->Srt (leZ cz) Z1->Z2.Perm (B++D)->Srt (leZ cz) Z2->ArS S' R ty t b (P++((Z1++Z2)++Q))->G S') :
  wpD gt C F138.body.rt.rt.rt.rt.rt.rt.rt.rt.rt.rt ((0,.val (slA t xs.length xs))::(1,.val (.int .i64 a))::(3,.val (.int .i64 c))::(4,.val (.fn f [] cs))::(18,.val (.int .i64 mid))::(20,.val (.int .i64 s))::(24,.val (.int .i64 e))::z) S (bodyQ gt F138.res λr S'=>r=.ret (.tup [])/\G S'):=by
 have hlen:(P++(A++(V++(B++(D++Q))))).length=P.length+(A.length+(V.length+(B.length+(D.length+Q.length)))):=by simp only[lA]
 have next:∀(S:St) (Z1:List Nat) (z:Env),Z1.Perm (A++V)->Srt (leZ cz) Z1->ArS S R ty t b (P++(Z1++(B++(D++Q))))->wpD gt C F138.body.rt.rt.rt.rt.rt.rt.rt.rt.rt.rt.rt ((0,.val (slA t xs.length xs))::(3,.val (.int .i64 c))::(4,.val (.fn f [] cs))::(18,.val (.int .i64 mid))::(24,.val (.int .i64 e))::z) S (bodyQ gt F138.res λr S'=>r=.ret (.tup [])/\G S'):=λS Z1 z p1 s1 hA=>by
  have zl:=p1.length_eq;rw[lA]at zl;refine mrgLast_wp (gt:=gt) hm ih (P:=P++Z1) (B:=B) (D:=D) (Q:=Q) (by rw[lA];omega) (by rw[lA];omega) (by rw[lA];omega) hk2 (λx hx=>hn x (List.mem_append_right _ hx)) sB sD (by rw[hx];simp only[lA];omega) (by rw[hlen]at hl;simp only[lA];omega) (by rw[aA];exact hA) ?_;intro S' Z2 p2 s2 hA2;exact fin S' Z1 Z2 p1 s1 p2 s2 (by simpa only[aA] using hA2)
 have triv:(A=[]\/V=[])->∀(o1 o2:Ent) z,wpD gt C F138.body.rt.rt.rt.rt.rt.rt.rt.rt.rt.rt.rt ((0,.val (slA t xs.length xs))::(1,o1)::(3,.val (.int .i64 c))::(4,.val (.fn f [] cs))::(18,.val (.int .i64 mid))::(20,o2)::(24,.val (.int .i64 e))::z) S (bodyQ gt F138.res λr S'=>r=.ret (.tup [])/\G S'):=λh o1 o2 z =>
  mrgLast2_wp (gt:=gt) hm ih (P:=P++(A++V)) (B:=B) (D:=D) (Q:=Q) (by simp only[lA];omega) (by simp only[lA];omega) (by simp only[lA];omega) hk2 (λx hx=>hn x (List.mem_append_right _ hx)) sB sD (by rw[hx];simp only[lA];omega) (by rw[hlen]at hl;simp only[lA];omega) (by simpa only[aA] using hA) λS' Z2 p2 s2 hA2 =>
   fin S' (A++V) Z2 (List.Perm.refl _) (by rcases h with rfl | rfl;exact sV;rw[List.append_nil];exact sA) p2 s2 (by simpa only[aA] using hA2)
 conv=>whnf
 refine goW ?_;by_cases c1:(a:Int)<(s:Int)
 ·rw[dT c1];refine goW ?_;by_cases c2:(s:Int)<(mid:Int)
  ·rw[dT c2];have b1:A≠[]:=λh=>by rw[h]at h2;simp at h2;omega
   have b2:V≠[]:=λh=>by rw[h]at h1;simp at h1;omega
   refine goW ?_;refine call_rule (by rfl) (hm _ _ _ _ _ (ih S xs P A V (B++(D++Q)) a s mid (hk1 b1 b2) h0 h2 h1 b1 b2 (λx hx=>hn x (List.mem_append_left _ hx)) sA sV hx hl hA) ?_);rintro r S2 ⟨rfl,Z1,z1,z2,z3⟩;have next:=next S2 Z1 [] z1 z2 z3
   refine goK ?_
   with_unfolding_all exact next
  ·rw[dF c2];have triv:=triv (.inr (nL (by omega)));refine goK ?_
   with_unfolding_all exact triv _ _ _
 ·rw[dF c1];have triv:=triv (.inl (nL (by omega)));refine goK ?_
  with_unfolding_all exact triv _ _ _
set_option maxHeartbeats 8000000 in
theorem mrgFirst2_wp (hm:MonoC C){f:FuncId}{cs:List AV}{n k:Nat}{cz:Nat->Nat->Int}(ih:MrgC C R ty t b n (.fn f [] cs) cz k){S:St}{xs:List AV}{P A V B D Q:List Nat}{a mid s e c:Nat}{o:Ent}{z:Env}{G:St->Prop}
  (h0:a=P.length) (h1:mid=P.length+A.length+V.length) (h2:s=P.length+A.length) (h3:e=mid+B.length) (h4:c=e+D.length) (hk1:A≠[]->V≠[]->A.length+V.length<=k) (hk2:B≠[]->D≠[]->B.length+D.length<=k)
  (hn:∀x∈(A++V)++(B++D),x<n) (sA:Srt (leZ cz) A) (sV:Srt (leZ cz) V) (sB:Srt (leZ cz) B) (sD:Srt (leZ cz) D)
  (hx:xs.length=(P++(A++(V++(B++(D++Q))))).length) (hl:(P++(A++(V++(B++(D++Q))))).length<1152921504606846976) (hA:ArS S R ty t b (P++(A++(V++(B++(D++Q))))))
  (fin:∀S' Z1 Z2,Z1.Perm (A++V)->Srt (leZ cz) Z1->Z2.Perm (B++D)->Srt (leZ cz) Z2->ArS S' R ty t b (P++((Z1++Z2)++Q))->G S') :
  wpD gt C F138.body.rt.rt.rt.rt.rt.rt.rt.rt.rt.rt ((0,.val (slA t xs.length xs))::(1,.val (.int .i64 a))::(2,o)::(3,.val (.int .i64 c))::(4,.val (.fn f [] cs))::(18,.val (.int .i64 mid))::(20,.val (.int .i64 s))::(24,.val (.int .i64 e))::z) S (bodyQ gt F138.res λr S'=>r=.ret (.tup [])/\G S'):=by
 have hlen:(P++(A++(V++(B++(D++Q))))).length=P.length+(A.length+(V.length+(B.length+(D.length+Q.length)))):=by simp only[lA]
 have next:∀(S:St) (Z1:List Nat) (z:Env),Z1.Perm (A++V)->Srt (leZ cz) Z1->ArS S R ty t b (P++(Z1++(B++(D++Q))))->wpD gt C F138.body.rt.rt.rt.rt.rt.rt.rt.rt.rt.rt.rt ((0,.val (slA t xs.length xs))::(3,.val (.int .i64 c))::(4,.val (.fn f [] cs))::(18,.val (.int .i64 mid))::(24,.val (.int .i64 e))::z) S (bodyQ gt F138.res λr S'=>r=.ret (.tup [])/\G S'):=λS Z1 z p1 s1 hA=>by
  have zl:=p1.length_eq;rw[lA]at zl;refine mrgLast_wp (gt:=gt) hm ih (P:=P++Z1) (B:=B) (D:=D) (Q:=Q) (by rw[lA];omega) (by rw[lA];omega) (by rw[lA];omega) hk2 (λx hx=>hn x (List.mem_append_right _ hx)) sB sD (by rw[hx];simp only[lA];omega) (by rw[hlen]at hl;simp only[lA];omega) (by rw[aA];exact hA) ?_;intro S' Z2 p2 s2 hA2;exact fin S' Z1 Z2 p1 s1 p2 s2 (by simpa only[aA] using hA2)
 have triv:(A=[]\/V=[])->∀(o1 o2:Ent) z,wpD gt C F138.body.rt.rt.rt.rt.rt.rt.rt.rt.rt.rt.rt ((0,.val (slA t xs.length xs))::(1,o1)::(3,.val (.int .i64 c))::(4,.val (.fn f [] cs))::(18,.val (.int .i64 mid))::(20,o2)::(24,.val (.int .i64 e))::z) S (bodyQ gt F138.res λr S'=>r=.ret (.tup [])/\G S'):=λh o1 o2 z =>
  mrgLast2_wp (gt:=gt) hm ih (P:=P++(A++V)) (B:=B) (D:=D) (Q:=Q) (by simp only[lA];omega) (by simp only[lA];omega) (by simp only[lA];omega) hk2 (λx hx=>hn x (List.mem_append_right _ hx)) sB sD (by rw[hx];simp only[lA];omega) (by rw[hlen]at hl;simp only[lA];omega) (by simpa only[aA] using hA) λS' Z2 p2 s2 hA2 =>
   fin S' (A++V) Z2 (List.Perm.refl _) (by rcases h with rfl | rfl;exact sV;rw[List.append_nil];exact sA) p2 s2 (by simpa only[aA] using hA2)
 conv=>whnf
 refine goW ?_;by_cases c1:(a:Int)<(s:Int)
 ·rw[dT c1];refine goW ?_;by_cases c2:(s:Int)<(mid:Int)
  ·rw[dT c2];have b1:A≠[]:=λh=>by rw[h]at h2;simp at h2;omega
   have b2:V≠[]:=λh=>by rw[h]at h1;simp at h1;omega
   refine goW ?_;refine call_rule (by rfl) (hm _ _ _ _ _ (ih S xs P A V (B++(D++Q)) a s mid (hk1 b1 b2) h0 h2 h1 b1 b2 (λx hx=>hn x (List.mem_append_left _ hx)) sA sV hx hl hA) ?_);rintro r S2 ⟨rfl,Z1,z1,z2,z3⟩;have next:=next S2 Z1 [] z1 z2 z3
   refine goK ?_
   with_unfolding_all exact next
  ·rw[dF c2];have triv:=triv (.inr (nL (by omega)));refine goK ?_
   with_unfolding_all exact triv _ _ _
 ·rw[dF c1];have triv:=triv (.inl (nL (by omega)));refine goK ?_
  with_unfolding_all exact triv _ _ _
end
end Go.Dn
