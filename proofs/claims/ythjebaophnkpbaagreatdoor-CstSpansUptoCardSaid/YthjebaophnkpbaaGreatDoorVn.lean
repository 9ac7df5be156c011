/- What the shelf's contracts ask of the program: its bodies are theirs. Printed by a program. A function of the library, by a contract of the shelf: pure data in, pure data out. The code is the program's,printed by a program (Gen). What the listed variables give; a world that meets the condition; the law without arguments, run by the kernel. Functions of the library by the contracts of the kit's shelf, as pure functions over the abstract store. The functions that laws about trees reach, as contracts, each by its code. Texts of characters: the reference's Runes and Valid. Trees: the reference's Shaped is the program's formed. Trees: the reference's Depth and Right; the law TreeRights, walked. Noughts cut off at both ends, in either order. Numbers: the reference's Digits and Decimal. Numbers: the reference's run; Split, from its end: the digits without noughts, the exponent. Numbers: the reference's Split: the exponent's number. Numbers: the reference's Split: the exponent's digits. Numbers: the reference's Split: its pieces. Numbers: the reference's Split is the program's. Numbers: the reference's Split is the program's: from its beginning. Numbers: the reference's Split, Join and Normal are the program's. Numbers: the reference's Join and Normal are the program's. Times: the reference's digits and dates. Times: the reference's dates are the program's. Times: the reference's times of a day are the program's. Times: the reference's Time, walked. Times: the reference's Time is the program's. The reference's functions that laws about trees reach, as contracts, each by its code. Sorting: what a stable sort by blocks and merges in place does, as plain lists. An array of numbers that is one's own, read and written in place. Sorting in place: ranges swapped, blocks turned round. Sorting in place: by insertion. Sorting in place: two rows merged, where one is of one. Sorting in place: two rows merged, where the other is of one. -/
import Derived.Test.YthjebaophnkpbaaGreatDoorProg
import Derived.Shelf.Strings.SlTrimAscii
import Derived.Shelf.Strconv.Atoi
import Derived.Shelf.Strconv.Itoa3
import Derived.Below
import Derived.Test.YthjebaophnkpbaaGreatDoorTie
import Derived.Test.YthjebaophnkpbaaGreatDoorCards
import Derived.ProofKit
import Derived.LaidMore
import Derived.Lib.LaidTab
import Derived.Stop.LaidErr
import Derived.OpenShut
import Derived.Carry
import Derived.Stop.Joined
import Derived.Lay
import Derived.SevenTiedAt
import Derived.Lib.SmallJoins
import Derived.Lib.AppendIntMem
import Derived.Test.YthjebaophnkpbaaGreatDoorVm
set_option linter.unusedSimpArgs false
set_option linter.unusedVariables false
namespace Go.Proofs.YthjebaophnkpbaaGreatDoor
open Go.Shelf
def Tryz.lays161_ren:Go.Shelf.Ren:=⟨fun | 161=>98 | 231=>122 | 227=>123 | 233=>124 | 235=>125 | 228=>141 | 197=>142 | 151=>143 | 260=>157 | 152=>158 | 137=>169 | 119=>170 | 224=>148 | 225=>147 | 217=>146 | 266=>164 | n=>n,fun | 9=>9 | 4=>4 | 3=>3 | 5=>5 | 117=>142 | 116=>141 | 0=>0 | 124=>145 | 105=>149 | 21=>21 | 119=>177 | 46=>96 | 139=>180 | 138=>179 | n=>n,fun | 3=>3 | 4=>4 | n=>n⟩
theorem Tryz.lays161:Go.Proofs.Lays.n161 Tryz.prog Tryz.lays161_ren where
 mixed:=by kernel_rfl
 f119:=Tryz.func170.trans (congrArg some (by kernel_rfl))
 f137:=Tryz.func169.trans (congrArg some (by kernel_rfl))
 f151:=Tryz.func143.trans (congrArg some (by kernel_rfl))
 f152:=Tryz.func158.trans (congrArg some (by kernel_rfl))
 f161:=Tryz.func98.trans (congrArg some (by kernel_rfl))
 f197:=Tryz.func142.trans (congrArg some (by kernel_rfl))
 f217:=Tryz.func146.trans (congrArg some (by kernel_rfl))
 f224:=Tryz.func148.trans (congrArg some (by kernel_rfl))
 f225:=Tryz.func147.trans (congrArg some (by kernel_rfl))
 f227:=Tryz.func123.trans (congrArg some (by kernel_rfl))
 f228:=Tryz.func141.trans (congrArg some (by kernel_rfl))
 f231:=Tryz.func122.trans (congrArg some (by kernel_rfl))
 f233:=Tryz.func124.trans (congrArg some (by kernel_rfl))
 f235:=Tryz.func125.trans (congrArg some (by kernel_rfl))
 f260:=Tryz.func157.trans (congrArg some (by kernel_rfl))
 f266:=Tryz.func164.trans (congrArg some (by kernel_rfl))
 t0:=Tryz.underlying0
 a0:=Tryz.isAgg0
 z0:=Tryz.sizeOf0
 v0:=Tryz.zeroValue0
 t3:=Tryz.underlying3
 a3:=Tryz.isAgg3
 z3:=Tryz.sizeOf3
 v3:=Tryz.zeroValue3
 t4:=Tryz.underlying4
 a4:=Tryz.isAgg4
 z4:=Tryz.sizeOf4
 v4:=Tryz.zeroValue4
 t5:=Tryz.underlying5
 a5:=Tryz.isAgg5
 z5:=Tryz.sizeOf5
 v5:=Tryz.zeroValue5
 t9:=Tryz.underlying9
 a9:=Tryz.isAgg9
 z9:=Tryz.sizeOf9
 v9:=Tryz.zeroValue9
 t21:=Tryz.underlying21
 a21:=Tryz.isAgg21
 z21:=Tryz.sizeOf21
 v21:=Tryz.zeroValue21
 t46:=Tryz.underlying96
 a46:=Tryz.isAgg96
 z46:=Tryz.sizeOf96
 v46:=Tryz.zeroValue96
 t105:=Tryz.underlying149
 a105:=Tryz.isAgg149
 z105:=Tryz.sizeOf149
 v105:=Tryz.zeroValue149
 t116:=Tryz.underlying141
 a116:=Tryz.isAgg141
 z116:=Tryz.sizeOf141
 t117:=Tryz.underlying142
 a117:=Tryz.isAgg142
 z117:=Tryz.sizeOf142
 v117:=Tryz.zeroValue142
 t119:=Tryz.underlying177
 a119:=Tryz.isAgg177
 z119:=Tryz.sizeOf177
 t124:=Tryz.underlying145
 a124:=Tryz.isAgg145
 z124:=Tryz.sizeOf145
 v124:=Tryz.zeroValue145
 t138:=Tryz.underlying179
 a138:=Tryz.isAgg179
 z138:=Tryz.sizeOf179
 v138:=Tryz.zeroValue179
 t139:=Tryz.underlying180
 a139:=Tryz.isAgg180
 z139:=Tryz.sizeOf180
 v139:=Tryz.zeroValue180
 g3:=by kernel_rfl
 g4:=by kernel_rfl
def Tryz.lays162_ren:Go.Shelf.Ren:=⟨fun | 162=>99 | 232=>126 | 227=>123 | 234=>127 | 236=>128 | 228=>141 | 271=>144 | 151=>143 | 120=>159 | 197=>142 | 152=>158 | 260=>157 | 137=>169 | 119=>170 | 224=>148 | 225=>147 | 217=>146 | 266=>164 | n=>n,fun | 9=>9 | 4=>4 | 3=>3 | 5=>5 | 117=>142 | 116=>141 | 0=>0 | 124=>145 | 21=>21 | 105=>149 | 46=>96 | 119=>177 | 139=>180 | 138=>179 | n=>n,fun | 3=>3 | 4=>4 | n=>n⟩
theorem Tryz.lays162:Go.Proofs.Lays.n162 Tryz.prog Tryz.lays162_ren where
 mixed:=by kernel_rfl
 f119:=Tryz.func170.trans (congrArg some (by kernel_rfl))
 f120:=Tryz.func159.trans (congrArg some (by kernel_rfl))
 f137:=Tryz.func169.trans (congrArg some (by kernel_rfl))
 f151:=Tryz.func143.trans (congrArg some (by kernel_rfl))
 f152:=Tryz.func158.trans (congrArg some (by kernel_rfl))
 f162:=Tryz.func99.trans (congrArg some (by kernel_rfl))
 f197:=Tryz.func142.trans (congrArg some (by kernel_rfl))
 f217:=Tryz.func146.trans (congrArg some (by kernel_rfl))
 f224:=Tryz.func148.trans (congrArg some (by kernel_rfl))
 f225:=Tryz.func147.trans (congrArg some (by kernel_rfl))
 f227:=Tryz.func123.trans (congrArg some (by kernel_rfl))
 f228:=Tryz.func141.trans (congrArg some (by kernel_rfl))
 f232:=Tryz.func126.trans (congrArg some (by kernel_rfl))
 f234:=Tryz.func127.trans (congrArg some (by kernel_rfl))
 f236:=Tryz.func128.trans (congrArg some (by kernel_rfl))
 f260:=Tryz.func157.trans (congrArg some (by kernel_rfl))
 f266:=Tryz.func164.trans (congrArg some (by kernel_rfl))
 f271:=Tryz.func144.trans (congrArg some (by kernel_rfl))
 t0:=Tryz.underlying0
 a0:=Tryz.isAgg0
 z0:=Tryz.sizeOf0
 v0:=Tryz.zeroValue0
 t3:=Tryz.underlying3
 a3:=Tryz.isAgg3
 z3:=Tryz.sizeOf3
 v3:=Tryz.zeroValue3
 t4:=Tryz.underlying4
 a4:=Tryz.isAgg4
 z4:=Tryz.sizeOf4
 v4:=Tryz.zeroValue4
 t5:=Tryz.underlying5
 a5:=Tryz.isAgg5
 z5:=Tryz.sizeOf5
 v5:=Tryz.zeroValue5
 t9:=Tryz.underlying9
 a9:=Tryz.isAgg9
 z9:=Tryz.sizeOf9
 v9:=Tryz.zeroValue9
 t21:=Tryz.underlying21
 a21:=Tryz.isAgg21
 z21:=Tryz.sizeOf21
 v21:=Tryz.zeroValue21
 t46:=Tryz.underlying96
 a46:=Tryz.isAgg96
 z46:=Tryz.sizeOf96
 v46:=Tryz.zeroValue96
 t105:=Tryz.underlying149
 a105:=Tryz.isAgg149
 z105:=Tryz.sizeOf149
 v105:=Tryz.zeroValue149
 t116:=Tryz.underlying141
 a116:=Tryz.isAgg141
 z116:=Tryz.sizeOf141
 t117:=Tryz.underlying142
 a117:=Tryz.isAgg142
 z117:=Tryz.sizeOf142
 v117:=Tryz.zeroValue142
 t119:=Tryz.underlying177
 a119:=Tryz.isAgg177
 z119:=Tryz.sizeOf177
 t124:=Tryz.underlying145
 a124:=Tryz.isAgg145
 z124:=Tryz.sizeOf145
 v124:=Tryz.zeroValue145
 t138:=Tryz.underlying179
 a138:=Tryz.isAgg179
 z138:=Tryz.sizeOf179
 v138:=Tryz.zeroValue179
 t139:=Tryz.underlying180
 a139:=Tryz.isAgg180
 z139:=Tryz.sizeOf180
 v139:=Tryz.zeroValue180
 g3:=by kernel_rfl
 g4:=by kernel_rfl
def Tryz.lays160_ren:Go.Shelf.Ren:=⟨fun | 160=>105 | 232=>126 | 231=>122 | 227=>123 | 234=>127 | 233=>124 | 236=>128 | 235=>125 | 228=>141 | 271=>144 | 151=>143 | 197=>142 | 120=>159 | 152=>158 | 260=>157 | 137=>169 | 119=>170 | 224=>148 | 225=>147 | 217=>146 | 266=>164 | n=>n,fun | 9=>9 | 4=>4 | 3=>3 | 5=>5 | 117=>142 | 116=>141 | 0=>0 | 124=>145 | 21=>21 | 105=>149 | 46=>96 | 119=>177 | 139=>180 | 138=>179 | n=>n,fun | 3=>3 | 4=>4 | n=>n⟩
theorem Tryz.lays160:Go.Proofs.Lays.n160 Tryz.prog Tryz.lays160_ren where
 mixed:=by kernel_rfl
 f119:=Tryz.func170.trans (congrArg some (by kernel_rfl))
 f120:=Tryz.func159.trans (congrArg some (by kernel_rfl))
 f137:=Tryz.func169.trans (congrArg some (by kernel_rfl))
 f151:=Tryz.func143.trans (congrArg some (by kernel_rfl))
 f152:=Tryz.func158.trans (congrArg some (by kernel_rfl))
 f160:=Tryz.func105.trans (congrArg some (by kernel_rfl))
 f197:=Tryz.func142.trans (congrArg some (by kernel_rfl))
 f217:=Tryz.func146.trans (congrArg some (by kernel_rfl))
 f224:=Tryz.func148.trans (congrArg some (by kernel_rfl))
 f225:=Tryz.func147.trans (congrArg some (by kernel_rfl))
 f227:=Tryz.func123.trans (congrArg some (by kernel_rfl))
 f228:=Tryz.func141.trans (congrArg some (by kernel_rfl))
 f231:=Tryz.func122.trans (congrArg some (by kernel_rfl))
 f232:=Tryz.func126.trans (congrArg some (by kernel_rfl))
 f233:=Tryz.func124.trans (congrArg some (by kernel_rfl))
 f234:=Tryz.func127.trans (congrArg some (by kernel_rfl))
 f235:=Tryz.func125.trans (congrArg some (by kernel_rfl))
 f236:=Tryz.func128.trans (congrArg some (by kernel_rfl))
 f260:=Tryz.func157.trans (congrArg some (by kernel_rfl))
 f266:=Tryz.func164.trans (congrArg some (by kernel_rfl))
 f271:=Tryz.func144.trans (congrArg some (by kernel_rfl))
 t0:=Tryz.underlying0
 a0:=Tryz.isAgg0
 z0:=Tryz.sizeOf0
 v0:=Tryz.zeroValue0
 t3:=Tryz.underlying3
 a3:=Tryz.isAgg3
 z3:=Tryz.sizeOf3
 v3:=Tryz.zeroValue3
 t4:=Tryz.underlying4
 a4:=Tryz.isAgg4
 z4:=Tryz.sizeOf4
 v4:=Tryz.zeroValue4
 t5:=Tryz.underlying5
 a5:=Tryz.isAgg5
 z5:=Tryz.sizeOf5
 v5:=Tryz.zeroValue5
 t9:=Tryz.underlying9
 a9:=Tryz.isAgg9
 z9:=Tryz.sizeOf9
 v9:=Tryz.zeroValue9
 t21:=Tryz.underlying21
 a21:=Tryz.isAgg21
 z21:=Tryz.sizeOf21
 v21:=Tryz.zeroValue21
 t46:=Tryz.underlying96
 a46:=Tryz.isAgg96
 z46:=Tryz.sizeOf96
 v46:=Tryz.zeroValue96
 t105:=Tryz.underlying149
 a105:=Tryz.isAgg149
 z105:=Tryz.sizeOf149
 v105:=Tryz.zeroValue149
 t116:=Tryz.underlying141
 a116:=Tryz.isAgg141
 z116:=Tryz.sizeOf141
 t117:=Tryz.underlying142
 a117:=Tryz.isAgg142
 z117:=Tryz.sizeOf142
 v117:=Tryz.zeroValue142
 t119:=Tryz.underlying177
 a119:=Tryz.isAgg177
 z119:=Tryz.sizeOf177
 t124:=Tryz.underlying145
 a124:=Tryz.isAgg145
 z124:=Tryz.sizeOf145
 v124:=Tryz.zeroValue145
 t138:=Tryz.underlying179
 a138:=Tryz.isAgg179
 z138:=Tryz.sizeOf179
 v138:=Tryz.zeroValue179
 t139:=Tryz.underlying180
 a139:=Tryz.isAgg180
 z139:=Tryz.sizeOf180
 v139:=Tryz.zeroValue180
 g3:=by kernel_rfl
 g4:=by kernel_rfl
def Tryz.lays172_ren:Go.Shelf.Ren:=⟨fun | 172=>121 | 244=>139 | 245=>140 | 247=>152 | 279=>153 | 280=>154 | 281=>155 | 282=>156 | 287=>166 | 316=>167 | 171=>101 | 205=>168 | 321=>176 | 322=>177 | 243=>130 | 246=>145 | 283=>160 | 284=>161 | 285=>162 | 286=>163 | 129=>172 | 317=>171 | 318=>173 | 319=>174 | 320=>175 | 337=>178 | 338=>179 | n=>n,fun | 9=>9 | 3=>3 | 75=>71 | 76=>72 | 4=>4 | 5=>5 | 167=>156 | 37=>61 | 0=>0 | 85=>157 | 2=>2 | 168=>159 | 53=>155 | 175=>171 | 46=>96 | 210=>175 | 127=>86 | 145=>188 | 143=>186 | 21=>21 | 171=>163 | 173=>166 | 212=>183 | 51=>168 | 20=>20 | 213=>184 | 232=>190 | 233=>191 | 80=>68 | n=>n,fun | 15=>1 | 16=>2 | 17=>5 | 18=>6 | 19=>7 | n=>n⟩
theorem Tryz.lays172:Go.Proofs.Lays.n172 Tryz.prog Tryz.lays172_ren where
 mixed:=by kernel_rfl
 f129:=Tryz.func172.trans (congrArg some (by kernel_rfl))
 f171:=Tryz.func101.trans (congrArg some (by kernel_rfl))
 f172:=Tryz.func121.trans (congrArg some (by kernel_rfl))
 f205:=Tryz.func168.trans (congrArg some (by kernel_rfl))
 f243:=Tryz.func130.trans (congrArg some (by kernel_rfl))
 f244:=Tryz.func139.trans (congrArg some (by kernel_rfl))
 f245:=Tryz.func140.trans (congrArg some (by kernel_rfl))
 f246:=Tryz.func145.trans (congrArg some (by kernel_rfl))
 f247:=Tryz.func152.trans (congrArg some (by kernel_rfl))
 f279:=Tryz.func153.trans (congrArg some (by kernel_rfl))
 f280:=Tryz.func154.trans (congrArg some (by kernel_rfl))
 f281:=Tryz.func155.trans (congrArg some (by kernel_rfl))
 f282:=Tryz.func156.trans (congrArg some (by kernel_rfl))
 f283:=Tryz.func160.trans (congrArg some (by kernel_rfl))
 f284:=Tryz.func161.trans (congrArg some (by kernel_rfl))
 f285:=Tryz.func162.trans (congrArg some (by kernel_rfl))
 f286:=Tryz.func163.trans (congrArg some (by kernel_rfl))
 f287:=Tryz.func166.trans (congrArg some (by kernel_rfl))
 f316:=Tryz.func167.trans (congrArg some (by kernel_rfl))
 f317:=Tryz.func171.trans (congrArg some (by kernel_rfl))
 f318:=Tryz.func173.trans (congrArg some (by kernel_rfl))
 f319:=Tryz.func174.trans (congrArg some (by kernel_rfl))
 f320:=Tryz.func175.trans (congrArg some (by kernel_rfl))
 f321:=Tryz.func176.trans (congrArg some (by kernel_rfl))
 f322:=Tryz.func177.trans (congrArg some (by kernel_rfl))
 f337:=Tryz.func178.trans (congrArg some (by kernel_rfl))
 f338:=Tryz.func179.trans (congrArg some (by kernel_rfl))
 t0:=Tryz.underlying0
 a0:=Tryz.isAgg0
 z0:=Tryz.sizeOf0
 v0:=Tryz.zeroValue0
 t2:=Tryz.underlying2
 a2:=Tryz.isAgg2
 z2:=Tryz.sizeOf2
 v2:=Tryz.zeroValue2
 t3:=Tryz.underlying3
 a3:=Tryz.isAgg3
 z3:=Tryz.sizeOf3
 v3:=Tryz.zeroValue3
 t4:=Tryz.underlying4
 a4:=Tryz.isAgg4
 z4:=Tryz.sizeOf4
 v4:=Tryz.zeroValue4
 t5:=Tryz.underlying5
 a5:=Tryz.isAgg5
 z5:=Tryz.sizeOf5
 v5:=Tryz.zeroValue5
 t9:=Tryz.underlying9
 a9:=Tryz.isAgg9
 z9:=Tryz.sizeOf9
 v9:=Tryz.zeroValue9
 t20:=Tryz.underlying20
 a20:=Tryz.isAgg20
 z20:=Tryz.sizeOf20
 v20:=Tryz.zeroValue20
 t21:=Tryz.underlying21
 a21:=Tryz.isAgg21
 z21:=Tryz.sizeOf21
 v21:=Tryz.zeroValue21
 t37:=Tryz.underlying61
 a37:=Tryz.isAgg61
 z37:=Tryz.sizeOf61
 v37:=Tryz.zeroValue61
 t46:=Tryz.underlying96
 a46:=Tryz.isAgg96
 z46:=Tryz.sizeOf96
 v46:=Tryz.zeroValue96
 t51:=Tryz.underlying168
 a51:=Tryz.isAgg168
 z51:=Tryz.sizeOf168
 v51:=Tryz.zeroValue168
 t53:=Tryz.underlying155
 a53:=Tryz.isAgg155
 z53:=Tryz.sizeOf155
 v53:=Tryz.zeroValue155
 t75:=Tryz.underlying71
 a75:=Tryz.isAgg71
 z75:=Tryz.sizeOf71
 v75:=Tryz.zeroValue71
 t76:=Tryz.underlying72
 a76:=Tryz.isAgg72
 z76:=Tryz.sizeOf72
 v76:=Tryz.zeroValue72
 t85:=Tryz.underlying157
 a85:=Tryz.isAgg157
 z85:=Tryz.sizeOf157
 v85:=Tryz.zeroValue157
 t127:=Tryz.underlying86
 a127:=Tryz.isAgg86
 z127:=Tryz.sizeOf86
 v127:=Tryz.zeroValue86
 t143:=Tryz.underlying186
 a143:=Tryz.isAgg186
 z143:=Tryz.sizeOf186
 v143:=Tryz.zeroValue186
 t145:=Tryz.underlying188
 a145:=Tryz.isAgg188
 z145:=Tryz.sizeOf188
 v145:=Tryz.zeroValue188
 t167:=Tryz.underlying156
 a167:=Tryz.isAgg156
 z167:=Tryz.sizeOf156
 v167:=Tryz.zeroValue156
 t168:=Tryz.underlying159
 a168:=Tryz.isAgg159
 z168:=Tryz.sizeOf159
 v168:=Tryz.zeroValue159
 t171:=Tryz.underlying163
 a171:=Tryz.isAgg163
 z171:=Tryz.sizeOf163
 v171:=Tryz.zeroValue163
 t173:=Tryz.underlying166
 a173:=Tryz.isAgg166
 z173:=Tryz.sizeOf166
 v173:=Tryz.zeroValue166
 t175:=Tryz.underlying171
 a175:=Tryz.isAgg171
 z175:=Tryz.sizeOf171
 v175:=Tryz.zeroValue171
 t210:=Tryz.underlying175
 a210:=Tryz.isAgg175
 z210:=Tryz.sizeOf175
 v210:=Tryz.zeroValue175
 t212:=Tryz.underlying183
 a212:=Tryz.isAgg183
 z212:=Tryz.sizeOf183
 v212:=Tryz.zeroValue183
 t213:=Tryz.underlying184
 a213:=Tryz.isAgg184
 z213:=Tryz.sizeOf184
 t232:=Tryz.underlying190
 a232:=Tryz.isAgg190
 z232:=Tryz.sizeOf190
 v232:=Tryz.zeroValue190
 t233:=Tryz.underlying191
 a233:=Tryz.isAgg191
 z233:=Tryz.sizeOf191
 v233:=Tryz.zeroValue191
 g15:=by kernel_rfl
 g16:=by kernel_rfl
 g17:=by kernel_rfl
 g18:=by kernel_rfl
 g19:=by kernel_rfl
def Tryz.lays171M_ren:Go.Shelf.Ren:=⟨fun | 171=>101 | 243=>130 | 246=>145 | 283=>160 | 284=>161 | 285=>162 | 286=>163 | 129=>172 | 317=>171 | 318=>173 | 319=>174 | 320=>175 | 337=>178 | 338=>179 | n=>n,fun | 3=>3 | 9=>9 | 2=>2 | 4=>4 | 171=>163 | 0=>0 | 53=>155 | 37=>61 | 5=>5 | 173=>166 | 212=>183 | 51=>168 | 20=>20 | 213=>184 | 46=>96 | 232=>190 | 233=>191 | n=>n,fun | 17=>5 | 18=>6 | 19=>7 | n=>n⟩
theorem Tryz.lays171M:Go.Proofs.LaysM.n171 Tryz.prog Tryz.lays171M_ren where
 mixed:=by kernel_rfl
 f129:=Tryz.func172.trans (congrArg some (by kernel_rfl))
 f171:=Tryz.func101.trans (congrArg some (by kernel_rfl))
 f243:=Tryz.func130.trans (congrArg some (by kernel_rfl))
 f246:=Tryz.func145.trans (congrArg some (by kernel_rfl))
 f283:=Tryz.func160.trans (congrArg some (by kernel_rfl))
 f284:=Tryz.func161.trans (congrArg some (by kernel_rfl))
 f285:=Tryz.func162.trans (congrArg some (by kernel_rfl))
 f286:=Tryz.func163.trans (congrArg some (by kernel_rfl))
 f317:=Tryz.func171.trans (congrArg some (by kernel_rfl))
 f318:=Tryz.func173.trans (congrArg some (by kernel_rfl))
 f319:=Tryz.func174.trans (congrArg some (by kernel_rfl))
 f320:=Tryz.func175.trans (congrArg some (by kernel_rfl))
 f337:=Tryz.func178.trans (congrArg some (by kernel_rfl))
 f338:=Tryz.func179.trans (congrArg some (by kernel_rfl))
 t0:=Tryz.underlying0
 a0:=Tryz.isAgg0
 z0:=Tryz.sizeOf0
 v0:=Tryz.zeroValue0
 t2:=Tryz.underlying2
 a2:=Tryz.isAgg2
 z2:=Tryz.sizeOf2
 v2:=Tryz.zeroValue2
 t3:=Tryz.underlying3
 a3:=Tryz.isAgg3
 z3:=Tryz.sizeOf3
 v3:=Tryz.zeroValue3
 t4:=Tryz.underlying4
 a4:=Tryz.isAgg4
 z4:=Tryz.sizeOf4
 v4:=Tryz.zeroValue4
 t5:=Tryz.underlying5
 a5:=Tryz.isAgg5
 z5:=Tryz.sizeOf5
 v5:=Tryz.zeroValue5
 t9:=Tryz.underlying9
 a9:=Tryz.isAgg9
 z9:=Tryz.sizeOf9
 v9:=Tryz.zeroValue9
 t20:=Tryz.underlying20
 a20:=Tryz.isAgg20
 z20:=Tryz.sizeOf20
 v20:=Tryz.zeroValue20
 t37:=Tryz.underlying61
 a37:=Tryz.isAgg61
 z37:=Tryz.sizeOf61
 v37:=Tryz.zeroValue61
 t46:=Tryz.underlying96
 a46:=Tryz.isAgg96
 z46:=Tryz.sizeOf96
 v46:=Tryz.zeroValue96
 t51:=Tryz.underlying168
 a51:=Tryz.isAgg168
 z51:=Tryz.sizeOf168
 v51:=Tryz.zeroValue168
 t53:=Tryz.underlying155
 a53:=Tryz.isAgg155
 z53:=Tryz.sizeOf155
 v53:=Tryz.zeroValue155
 t171:=Tryz.underlying163
 a171:=Tryz.isAgg163
 z171:=Tryz.sizeOf163
 v171:=Tryz.zeroValue163
 t173:=Tryz.underlying166
 a173:=Tryz.isAgg166
 z173:=Tryz.sizeOf166
 v173:=Tryz.zeroValue166
 t212:=Tryz.underlying183
 a212:=Tryz.isAgg183
 z212:=Tryz.sizeOf183
 v212:=Tryz.zeroValue183
 t213:=Tryz.underlying184
 a213:=Tryz.isAgg184
 z213:=Tryz.sizeOf184
 t232:=Tryz.underlying190
 a232:=Tryz.isAgg190
 z232:=Tryz.sizeOf190
 v232:=Tryz.zeroValue190
 t233:=Tryz.underlying191
 a233:=Tryz.isAgg191
 z233:=Tryz.sizeOf191
 v233:=Tryz.zeroValue191
 g17:=by kernel_rfl
 g18:=by kernel_rfl
 g19:=by kernel_rfl
 i0:=by kernel_rfl
 i2:=by kernel_rfl
 i3:=by kernel_rfl
 i4:=by kernel_rfl
 i5:=by kernel_rfl
 i9:=by kernel_rfl
 i20:=by kernel_rfl
 i37:=by kernel_rfl
 i46:=by kernel_rfl
 i51:=by kernel_rfl
 i53:=by kernel_rfl
 i171:=by kernel_rfl
 i173:=by kernel_rfl
 i212:=by kernel_rfl
 i232:=by kernel_rfl
 i233:=by kernel_rfl
 m17:=by kernel_rfl
 m18:=by kernel_rfl
 m19:=by kernel_rfl
end Go.Proofs.YthjebaophnkpbaaGreatDoor

namespace Go.Dn
open Go Go.RowKit
theorem PF.of_calls {P:Program} {gt:GT} {f:FuncId} {us:List AV} {u:AV} {args:List Value} {v:Value} (hb:HasBody P f)
  (ha:∀S G w vs,Rl S G w us vs→vs=args) (hv:∀S G w,Rv S G w u v)
  (h:∀w,Calls P f ⟨args⟩ w fun e w'=>e=.returned v∧Below w.heap.size w w'):PF (AC P gt) f us u:=fun S =>
 ⟨hb,fun G w vs hI hx=>by
  rw [ha S G w vs hx]
  refine (h w).mono fun e w' hp=>?_
  obtain⟨rfl,bel⟩:=hp
  exact⟨u,S,G,⟨rfl,rfl⟩,Tr.gr hI ⟨bel.os,bel.tape,bel.output,bel.size,bel.block⟩,hv S G w'⟩⟩
theorem PF.of_callsI {P:Program} {gt:GT} {f:FuncId} {us:List AV} {u:AV} {args:List Value} {v:Value} (hb:HasBody P f)
  (ha:∀S G w vs,Rl S G w us vs→vs=args) (hv:∀S G w,Rv S G w u v)
  (h:∀S G w,Inv P gt S G w→Calls P f ⟨args⟩ w fun e w'=>e=.returned v∧Below w.heap.size w w'):PF (AC P gt) f us u:=fun S =>
 ⟨hb,fun G w vs hI hx=>by
  rw [ha S G w vs hx]
  refine (h S G w hI).mono fun e w' hp=>?_
  obtain⟨rfl,bel⟩:=hp
  exact⟨u,S,G,⟨rfl,rfl⟩,Tr.gr hI ⟨bel.os,bel.tape,bel.output,bel.size,bel.block⟩,hv S G w'⟩⟩
theorem rl_str1 {S:St} {G:Gh} {w:World} {a:List UInt8} {vs:List Value} (h:Rl S G w [.str a] vs):vs=[.string ⟨a.toArray⟩]:=by
 simp only [Rl,Rv] at h
 obtain⟨v,r,rfl,hv,rfl⟩:=h
 first | (obtain⟨b,rfl,e⟩:=hv;subst e;rfl) | (subst hv;rfl)
theorem rl_str2 {S:St} {G:Gh} {w:World} {a b:List UInt8} {vs:List Value} (h:Rl S G w [.str a,.str b] vs):vs=[.string ⟨a.toArray⟩,.string ⟨b.toArray⟩]:=by
 simp only [Rl,Rv] at h
 obtain⟨v,r,rfl,hv,v2,r2,rfl,hv2,rfl⟩:=h
 first | (subst hv;subst hv2;rfl) | skip
end Go.Dn

namespace Go.Proofs.C1
open Go Go.Dn
set_option maxRecDepth 100000
noncomputable section
abbrev pF (n:Note) (f:Func):DF:=(prepF Tryz.prog n f).getD ⟨0,.ret,[]⟩
abbrev N3:Note:=⟨[1,2,6,9,12,108],[(0,[]),(1,[1]),(2,[1,2,3]),(3,[1,3,4,5]),(4,[1,55]),(5,[0]),(6,[1,6,7,8]),(7,[1,6,7,8,9,10,11]),(8,[1,6,7,8,9,10,11,14]),(9,[1,107]),(10,[0]),(11,[1,109]),(12,[1,121,122,124]),(13,[1]),(14,[1]),(15,[1]),(16,[1,3]),(17,[0])],[(14,[(some 1),(some 1),(some 1),(some 1),none,none,none,(some 1),(some 1),none,none,none,none,none,none,none,none,none,none]),(12,[(some 1),(some 1),none,none,none,(some 1),(some 1),none,none,none,none,none,none,none,none,none,none,none]),(11,[none,(some 108),(some 108),(some 108)])]⟩
def F3:DF:=pF N3 Tryz.f3
theorem F3_ok:prepF Tryz.prog N3 Tryz.f3=some F3:=by kernel_rfl
theorem F3_fn:FnOK2 Tryz.prog 3 (.pl F3):=.pl Tryz.func3 (by kernel_rfl) F3_ok
theorem F7_ok : prepF Tryz.prog ⟨[2,6,9,11,15,17,20],[(0,[1,2]),(1,[1,2,28]),(2,[4]),(3,[1,2,5]),(4,[1,2,5,6,7]),(5,[1,2,5,6,43]),(6,[4]),(7,[1,2,5,6,8]),(8,[1,2,5,6,8,9]),(9,[1,2,5,6,8,9,10]),(10,[1,2,5,6,8,9,10,52]),(11,[1,2,5,6,8,9,10]),(12,[1,2,5,6,8,9,10,11,12,13]),(13,[1,2,5,6,8,9,10,11,12,13,14]),(14,[1,2,5,6,8,9,10,11,96]),(15,[4]),(16,[1,2,5,6,8,9,10,15,16]),(17,[1,2,5,6,8,9,10,15,16,17,18]),(18,[1,2,5,6,8,9,10,119]),(19,[4]),(20,[1,2,5,6,8,9,10,129]),(21,[1,2,5,6,8,9,10,19]),(22,[1,2,5,6,8,9,10,19,20]),(23,[1,2,5,6,8,9,10,19,20,143]),(24,[1,2,5,6,8,9,10,19,20]),(25,[1,2,5,6,8,9,10,19]),(26,[1,2,5,6,8,9,10]),(27,[4]),(1000000,[1,2,5,6,8,9,10])],[(21,[none,none,none,none,(some 9),(some 9),none,none,none,none])]⟩ Tryz.f7 = some F7 := by kernel_rfl
theorem F7_fn:FnOK2 Tryz.prog 7 (.pl F7):=.pl Tryz.func7 (by kernel_rfl) F7_ok
abbrev N8:Note:=⟨[0,1,2,3],[(0,[0]),(1,[0,1]),(2,[0,1,2]),(3,[0,1,3]),(4,[0])],[]⟩
def F8:DF:=pF N8 Tryz.f8
theorem F8_ok:prepF Tryz.prog N8 Tryz.f8=some F8:=by kernel_rfl
theorem F8_fn:FnOK2 Tryz.prog 8 (.pl F8):=.pl Tryz.func8 (by kernel_rfl) F8_ok
theorem F9_ok : prepF Tryz.prog ⟨[1,2],[(0,[1,2]),(1,[1,2,6]),(2,[2,3]),(3,[2,3])],[]⟩ Tryz.f9 = some F9 := by kernel_rfl
theorem F9_fn:FnOK2 Tryz.prog 9 (.pl F9):=.pl Tryz.func9 (by kernel_rfl) F9_ok
abbrev N10:Note:=⟨[1],[(0,[1]),(1,[1,4]),(2,[1,4,9]),(3,[2,3]),(4,[1,5]),(5,[5]),(6,[5,20]),(7,[2,3]),(8,[2,3])],[]⟩
def F10:DF:=pF N10 Tryz.f10
theorem F10_ok:prepF Tryz.prog N10 Tryz.f10=some F10:=by kernel_rfl
theorem F10_fn:FnOK2 Tryz.prog 10 (.pl F10):=.pl Tryz.func10 (by kernel_rfl) F10_ok
theorem F11_ok : prepF Tryz.prog ⟨[1],[(0,[1]),(1,[1,3]),(2,[3]),(3,[2])],[]⟩ Tryz.f11 = some F11 := by kernel_rfl
theorem F11_fn:FnOK2 Tryz.prog 11 (.pl F11):=.pl Tryz.func11 (by kernel_rfl) F11_ok
theorem F12_ok : prepF Tryz.prog ⟨[1],[(0,[1]),(1,[1,3]),(2,[3]),(3,[2])],[]⟩ Tryz.f12 = some F12 := by kernel_rfl
theorem F12_fn:FnOK2 Tryz.prog 12 (.pl F12):=.pl Tryz.func12 (by kernel_rfl) F12_ok
theorem F13_ok : prepF Tryz.prog ⟨[1,5],[(0,[1]),(1,[1,3]),(2,[3,7,8,9]),(3,[3,7,8,9,10]),(4,[3,5,7,8,9]),(5,[3,7,8,9]),(6,[3,7,8,9]),(7,[2]),(1000000,[3,7,8,9])],[]⟩ Tryz.f13 = some F13 := by kernel_rfl
theorem F13_fn:FnOK2 Tryz.prog 13 (.pl F13):=.pl Tryz.func13 (by kernel_rfl) F13_ok
theorem F14_ok : prepF Tryz.prog ⟨[1],[(0,[1]),(1,[2])],[]⟩ Tryz.f14 = some F14 := by kernel_rfl
theorem F14_fn:FnOK2 Tryz.prog 14 (.pl F14):=.pl Tryz.func14 (by kernel_rfl) F14_ok
theorem F15_ok : prepF Tryz.prog ⟨[2,4,9,12],[(0,[1,2,4]),(1,[1,2,4,7]),(2,[2,4,7,13,14,15]),(3,[2,4,7,13,14,15,16]),(4,[2,4,7,9,13,14,15]),(5,[2,4,7,10,13,14,15]),(6,[2,4,7,10,13,14,15,23]),(7,[4,5,6]),(8,[2,4,7,10,13,14,15]),(9,[2,4,7,10,13,14,15,37,38,39]),(10,[2,4,7,10,13,14,15,37,38,39,40]),(11,[2,4,7,10,11,12,13,14,15,37,38,39]),(12,[2,4,7,10,11,13,14,15,37,38,39]),(13,[2,4,7,10,11,13,14,15,37,38,39,52]),(14,[2,4,7,10,13,14,15,37,38,39]),(15,[2,4,7,10,13,14,15,37,38,39]),(16,[2,4,7,13,14,15]),(17,[2,4,7,13,14,15]),(18,[4,5,6]),(1000000,[2,4,7,13,14,15]),(1000002,[2,4,7,10,13,14,15,37,38,39])],[]⟩ Tryz.f15 = some F15 := by kernel_rfl
theorem F15_fn:FnOK2 Tryz.prog 15 (.pl F15):=.pl Tryz.func15 (by kernel_rfl) F15_ok
theorem F16_ok : prepF Tryz.prog ⟨[2],[(0,[1,2]),(1,[1,2,5]),(2,[1,2,5,6]),(3,[1,2,5,6,25]),(4,[1,2,5,6]),(5,[1,2,5,6]),(6,[4]),(1000000,[1,2,5,6])],[(1,[(some 2),(some 2),none,none,none,(some 2),(some 2),none,none,none])]⟩ Tryz.f16 = some F16 := by kernel_rfl
theorem F16_fn:FnOK2 Tryz.prog 16 (.pl F16):=.pl Tryz.func16 (by kernel_rfl) F16_ok
theorem F24_ok : prepF Tryz.prog ⟨[1,2,3,5],[(0,[1,2]),(1,[1,2,3]),(2,[1,2,3]),(3,[1,2,3]),(4,[2,3,17,18,19]),(5,[2,3,17,18,19,20]),(6,[2,3,5,17,18,19]),(7,[2,3,17,18,19]),(8,[2,3,17,18,19]),(9,[2]),(1000000,[2,3,17,18,19])],[(7,[(some 3),(some 3),(some 5),none,none,none,(some 3),(some 3)])]⟩ Tryz.f24 = some F24 := by kernel_rfl
theorem F24_fn:FnOK2 Tryz.prog 24 (.pl F24):=.pl Tryz.func24 (by kernel_rfl) F24_ok
theorem F28_ok : prepF Tryz.prog ⟨[1],[(0,[1]),(1,[1,3]),(2,[2]),(3,[1,7]),(4,[2]),(5,[11]),(6,[2]),(7,[2])],[]⟩ Tryz.f28 = some F28 := by kernel_rfl
theorem F28_fn:FnOK2 Tryz.prog 28 (.pl F28):=.pl Tryz.func28 (by kernel_rfl) F28_ok
theorem F29_ok : prepF Tryz.prog ⟨[2,4,7],[(0,[1,2,4]),(1,[2,4,9,10,11]),(2,[2,4,9,10,11,12]),(3,[2,4,7,9,10,11]),(4,[2,4,8,9,10,11]),(5,[2,4,8,9,10,11,19]),(6,[4,5]),(7,[2,4,9,10,11]),(8,[2,4,9,10,11]),(9,[4,5]),(1000000,[2,4,9,10,11])],[]⟩ Tryz.f29 = some F29 := by kernel_rfl
theorem F29_fn:FnOK2 Tryz.prog 29 (.pl F29):=.pl Tryz.func29 (by kernel_rfl) F29_ok
theorem F30_ok : prepF Tryz.prog ⟨[2,3],[(0,[2,3]),(1,[2,3,12]),(2,[4]),(3,[4])],[(3,[(some 2),none,(some 3),none,none,none])]⟩ Tryz.f30 = some F30 := by kernel_rfl
theorem F30_fn:FnOK2 Tryz.prog 30 (.pl F30):=.pl Tryz.func30 (by kernel_rfl) F30_ok
theorem F31_ok : prepF Tryz.prog ⟨[],[(0,[0,1,2]),(1,[0,1,2]),(2,[0,1,2,14]),(3,[0,1]),(4,[6])],[]⟩ Tryz.f31 = some F31 := by kernel_rfl
theorem F31_fn:FnOK2 Tryz.prog 31 (.pl F31):=.pl Tryz.func31 (by kernel_rfl) F31_ok
theorem F32_ok : prepF Tryz.prog ⟨[1,2,3,5],[(0,[1,2]),(1,[1,2,7]),(2,[2]),(3,[1,2,3]),(4,[1,2,3,15,16,17]),(5,[1,2,3,15,16,17,18]),(6,[1,2,3,5,15,16,17]),(7,[1,2,3,5,15,16,17,23]),(8,[1,2,3,5,15,16,17]),(9,[1,2,3,15,16,17]),(10,[1,2,3,15,16,17]),(11,[2]),(1000000,[1,2,3,15,16,17])],[(9,[(some 3),(some 3),(some 5),none,none,none,(some 3),(some 3)])]⟩ Tryz.f32 = some F32 := by kernel_rfl
theorem F32_fn:FnOK2 Tryz.prog 32 (.pl F32):=.pl Tryz.func32 (by kernel_rfl) F32_ok
abbrev N33:Note:=⟨[3,7],[(0,[0,3]),(1,[0,3,13]),(2,[0,3,13,14]),(3,[]),(4,[0,3,13,18]),(5,[0,3,13,18]),(6,[]),(7,[0,3,13,25]),(8,[0,4]),(9,[]),(10,[0,3,13,36]),(11,[]),(12,[0,3,13,43]),(13,[0,3]),(14,[0,48,49,50]),(15,[0,48,49,50,51]),(16,[0,6,7,48,49,50]),(17,[0,7,48,49,50,56]),(18,[0,7,48,49,50]),(19,[0,48,49,50]),(20,[0,48,49,50]),(21,[]),(22,[0,3,65]),(23,[0,3]),(24,[0,3,71,72,73]),(25,[0,3,71,72,73,74]),(26,[0,3,8,9,71,72,73]),(27,[0,3,9,71,72,73,79]),(28,[0,3,9,71,72,73]),(29,[0,3,9,10,71,72,73]),(30,[0,3,9,71,72,73]),(31,[0,3,71,72,73]),(32,[0,3,71,72,73]),(33,[]),(1000001,[0,48,49,50]),(1000003,[0,3,71,72,73])],[]⟩
def F33:DF:=pF N33 Tryz.f33
theorem F33_ok:prepF Tryz.prog N33 Tryz.f33=some F33:=by kernel_rfl
theorem F33_fn:FnOK2 Tryz.prog 33 (.pl F33):=.pl Tryz.func33 (by kernel_rfl) F33_ok
theorem F34_ok : prepF Tryz.prog ⟨[],[(0,[0]),(1,[2])],[]⟩ Tryz.f34 = some F34 := by kernel_rfl
theorem F34_fn:FnOK2 Tryz.prog 34 (.pl F34):=.pl Tryz.func34 (by kernel_rfl) F34_ok
theorem F35_ok : prepF Tryz.prog ⟨[],[(0,[0]),(1,[2])],[]⟩ Tryz.f35 = some F35 := by kernel_rfl
theorem F35_fn:FnOK2 Tryz.prog 35 (.pl F35):=.pl Tryz.func35 (by kernel_rfl) F35_ok
theorem F36_ok : prepF Tryz.prog ⟨[2,5],[(0,[1,2]),(1,[1,2]),(2,[1,2,11]),(3,[1,2]),(4,[1,2]),(5,[1,2,21,22,23]),(6,[1,2,21,22,23,24]),(7,[1,2,4,5,21,22,23]),(8,[1,2,4,5,21,22,23,37]),(9,[1,2,5,21,22,23]),(10,[1,2,21,22,23]),(11,[1,2,21,22,23]),(12,[1,2]),(13,[]),(1000000,[1,2,21,22,23])],[]⟩ Tryz.f36 = some F36 := by kernel_rfl
theorem F36_fn:FnOK2 Tryz.prog 36 (.pl F36):=.pl Tryz.func36 (by kernel_rfl) F36_ok
theorem F37_ok : prepF Tryz.prog ⟨[],[(0,[])],[]⟩ Tryz.f37 = some F37 := by kernel_rfl
theorem F37_fn:FnOK2 Tryz.prog 37 (.pl F37):=.pl Tryz.func37 (by kernel_rfl) F37_ok
theorem F38_ok : prepF Tryz.prog ⟨[],[(0,[0,1]),(1,[0,1]),(2,[1]),(3,[4,5])],[]⟩ Tryz.f38 = some F38 := by kernel_rfl
theorem F38_fn:FnOK2 Tryz.prog 38 (.pl F38):=.pl Tryz.func38 (by kernel_rfl) F38_ok
theorem F39_ok : prepF Tryz.prog ⟨[],[(0,[])],[]⟩ Tryz.f39 = some F39 := by kernel_rfl
theorem F39_fn:FnOK2 Tryz.prog 39 (.pl F39):=.pl Tryz.func39 (by kernel_rfl) F39_ok
theorem F40_ok : prepF Tryz.prog ⟨[1,5],[(0,[1]),(1,[1,3]),(2,[3,7,8,9]),(3,[3,7,8,9,10]),(4,[3,5,7,8,9]),(5,[3,7,8,9]),(6,[3,7,8,9]),(7,[2]),(1000000,[3,7,8,9])],[]⟩ Tryz.f40 = some F40 := by kernel_rfl
theorem F40_fn:FnOK2 Tryz.prog 40 (.pl F40):=.pl Tryz.func40 (by kernel_rfl) F40_ok
theorem F41_ok : prepF Tryz.prog ⟨[1,5],[(0,[1]),(1,[1,7]),(2,[2]),(3,[1,72]),(4,[2]),(5,[1,3]),(6,[1,3,75,76,77]),(7,[1,3,75,76,77,78]),(8,[1,3,5,75,76,77]),(9,[1,3,5,75,76,77]),(10,[1,3,75,76,77,116]),(11,[2]),(12,[1,3,75,76,77]),(13,[2]),(1000000,[1,3,75,76,77])],[]⟩ Tryz.f41 = some F41 := by kernel_rfl
theorem F41_fn:FnOK2 Tryz.prog 41 (.pl F41):=.pl Tryz.func41 (by kernel_rfl) F41_ok
theorem F42_ok : prepF Tryz.prog ⟨[2,3,6],[(0,[2,3]),(1,[2,3,8]),(2,[2,3,8,9]),(3,[3,26]),(4,[4]),(5,[2,3,29]),(6,[3,32,33,34]),(7,[3,32,33,34,35]),(8,[3,5,6,32,33,34]),(9,[3,5,32,33,34,43]),(10,[4]),(11,[3,32,33,34]),(12,[4]),(1000001,[3,32,33,34])],[]⟩ Tryz.f42 = some F42 := by kernel_rfl
theorem F42_fn:FnOK2 Tryz.prog 42 (.pl F42):=.pl Tryz.func42 (by kernel_rfl) F42_ok
theorem F43_ok : prepF Tryz.prog ⟨[2],[(0,[1,2]),(1,[1,2,5]),(2,[1,2,5,6]),(3,[1,2,5,6,16]),(4,[1,2,5,6]),(5,[1,2,5,6]),(6,[4]),(1000000,[1,2,5,6])],[]⟩ Tryz.f43 = some F43 := by kernel_rfl
theorem F43_fn:FnOK2 Tryz.prog 43 (.pl F43):=.pl Tryz.func43 (by kernel_rfl) F43_ok
theorem F49_ok : prepF Tryz.prog ⟨[1,2,3,5],[(0,[1,2]),(1,[1,2,3]),(2,[1,2,3]),(3,[2,3,18,19,20]),(4,[2,3,18,19,20,21]),(5,[2,3,5,18,19,20]),(6,[2,3,18,19,20]),(7,[2,3,18,19,20]),(8,[2]),(1000000,[2,3,18,19,20])],[(6,[(some 3),(some 3),(some 5),none,none,none,(some 3),(some 3)])]⟩ Tryz.f49 = some F49 := by kernel_rfl
theorem F49_fn:FnOK2 Tryz.prog 49 (.pl F49):=.pl Tryz.func49 (by kernel_rfl) F49_ok
theorem F52_ok : prepF Tryz.prog ⟨[1,5],[(0,[1]),(1,[1,3]),(2,[3,7,8,9]),(3,[3,7,8,9,10]),(4,[3,5,7,8,9]),(5,[3,7,8,9]),(6,[3,7,8,9]),(7,[2]),(1000000,[3,7,8,9])],[]⟩ Tryz.f52 = some F52 := by kernel_rfl
theorem F52_fn:FnOK2 Tryz.prog 52 (.pl F52):=.pl Tryz.func52 (by kernel_rfl) F52_ok
theorem F53_ok : prepF Tryz.prog ⟨[1,5],[(0,[1]),(1,[1,3]),(2,[3,7,8,9]),(3,[3,7,8,9,10]),(4,[3,5,7,8,9]),(5,[3,7,8,9]),(6,[3,7,8,9]),(7,[2]),(1000000,[3,7,8,9])],[]⟩ Tryz.f53 = some F53 := by kernel_rfl
theorem F53_fn:FnOK2 Tryz.prog 53 (.pl F53):=.pl Tryz.func53 (by kernel_rfl) F53_ok
theorem F54_ok : prepF Tryz.prog ⟨[1,4],[(0,[1]),(1,[1,9,10,11]),(2,[1,9,10,11,12]),(3,[1,4,9,10,11]),(4,[1,9,10,11,17]),(5,[2]),(6,[1,9,10,11]),(7,[1,5]),(8,[1,5,30]),(9,[1,5,30,31]),(10,[2]),(11,[1,5,30,39]),(12,[2]),(13,[1,5,30,52]),(14,[1,5,6,7]),(15,[2]),(16,[1,5,30,71]),(17,[2]),(18,[1,5,30,79]),(19,[2]),(20,[1,30,87]),(21,[2]),(22,[1,98]),(23,[2]),(24,[2]),(1000000,[1,9,10,11])],[]⟩ Tryz.f54 = some F54 := by kernel_rfl
theorem F54_fn:FnOK2 Tryz.prog 54 (.pl F54):=.pl Tryz.func54 (by kernel_rfl) F54_ok
theorem F55_ok : prepF Tryz.prog ⟨[2,3],[(0,[2,3]),(1,[2,3,7]),(2,[2,3,7,8]),(3,[3,25]),(4,[4]),(5,[2,3,28]),(6,[2,3,5]),(7,[5,46]),(8,[4]),(9,[4])],[]⟩ Tryz.f55 = some F55 := by kernel_rfl
theorem F55_fn:FnOK2 Tryz.prog 55 (.pl F55):=.pl Tryz.func55 (by kernel_rfl) F55_ok
theorem F56_ok : prepF Tryz.prog ⟨[2,3],[(0,[2,3]),(1,[4])],[]⟩ Tryz.f56 = some F56 := by kernel_rfl
theorem F56_fn:FnOK2 Tryz.prog 56 (.pl F56):=.pl Tryz.func56 (by kernel_rfl) F56_ok
theorem F57_ok : prepF Tryz.prog ⟨[1,2,3,5],[(0,[1,2]),(1,[1,2,3]),(2,[1,2,3,24]),(3,[1,2,3]),(4,[2,3,32,33,34]),(5,[2,3,32,33,34,35]),(6,[2,3,5,32,33,34]),(7,[2,3,32,33,34]),(8,[2,3,32,33,34]),(9,[2]),(10,[1,2,3,49,50,51]),(11,[1,2,3,49,50,51,52]),(12,[1,2,3,7,49,50,51]),(13,[1,2,3,7,49,50,51]),(14,[1,2,3,49,50,51]),(15,[1,2,3,49,50,51]),(16,[2]),(1000000,[2,3,32,33,34]),(1000002,[1,2,3,49,50,51])],[(14,[(some 3),(some 3),(some 1),(some 1),none,none,none,none,none,none,(some 3),(some 3)]),(13,[(some 3),(some 3),(some 1),(some 1),none,none,none,none,none,(some 3),(some 3)]),(7,[(some 3),(some 3),(some 5),none,none,none,(some 3),(some 3)])]⟩ Tryz.f57 = some F57 := by kernel_rfl
theorem F57_fn:FnOK2 Tryz.prog 57 (.pl F57):=.pl Tryz.func57 (by kernel_rfl) F57_ok
theorem F58_ok : prepF Tryz.prog ⟨[1],[(0,[1]),(1,[2])],[]⟩ Tryz.f58 = some F58 := by kernel_rfl
theorem F58_fn:FnOK2 Tryz.prog 58 (.pl F58):=.pl Tryz.func58 (by kernel_rfl) F58_ok
abbrev N59:Note:=⟨[],[(0,[0,1,8]),(1,[])],[]⟩
def F59:DF:=pF N59 Tryz.f59
theorem F59_ok:prepF Tryz.prog N59 Tryz.f59=some F59:=by kernel_rfl
theorem F59_fn:FnOK2 Tryz.prog 59 (.pl F59):=.pl Tryz.func59 (by kernel_rfl) F59_ok
abbrev N60:Note:=⟨[],[(0,[0]),(1,[0,10]),(2,[2,3]),(3,[0,4]),(4,[0,4]),(5,[0,4,13,14]),(6,[0,4,13,14,15]),(7,[0,4,5,13,14]),(8,[0,4,6,13,14]),(9,[0,4,6,7,13,14]),(10,[0,4,13,14]),(11,[0,4,6,7,13,14,24]),(12,[0,4,7,13,14]),(13,[0,4,13,14]),(14,[0,4,6,13,14,30]),(15,[0,4,6,13,14]),(16,[0,4,6,13,14]),(17,[0,4,13,14]),(18,[0,4,13,14]),(19,[4]),(20,[2,3]),(1000000,[0,4,13,14])],[]⟩
def F60:DF:=pF N60 Tryz.f60
theorem F60_ok:prepF Tryz.prog N60 Tryz.f60=some F60:=by kernel_rfl
theorem F60_fn:FnOK2 Tryz.prog 60 (.pl F60):=.pl Tryz.func60 (by kernel_rfl) F60_ok
theorem F61_ok : prepF Tryz.prog ⟨[],[(0,[1]),(1,[1,3]),(2,[1,3,9,10]),(3,[1,3,9,10,11]),(4,[1,3,4,9,10]),(5,[1,3,9,10]),(6,[1,3,9,10]),(7,[3]),(8,[2]),(1000000,[1,3,9,10])],[]⟩ Tryz.f61 = some F61 := by kernel_rfl
theorem F61_fn:FnOK2 Tryz.prog 61 (.pl F61):=.pl Tryz.func61 (by kernel_rfl) F61_ok
theorem F62_ok : prepF Tryz.prog ⟨[],[(0,[0,6]),(1,[]),(2,[19])],[]⟩ Tryz.f62 = some F62 := by kernel_rfl
theorem F62_fn:FnOK2 Tryz.prog 62 (.pl F62):=.pl Tryz.func62 (by kernel_rfl) F62_ok
theorem F63_ok : prepF Tryz.prog ⟨[],[(0,[0]),(1,[2])],[]⟩ Tryz.f63 = some F63 := by kernel_rfl
theorem F63_fn:FnOK2 Tryz.prog 63 (.pl F63):=.pl Tryz.func63 (by kernel_rfl) F63_ok
theorem F66_ok : prepF Tryz.prog ⟨[4],[(0,[0]),(1,[4,5]),(2,[4,5,12]),(3,[2,3]),(4,[2,3])],[]⟩ Tryz.f66 = some F66 := by kernel_rfl
theorem F66_fn:FnOK2 Tryz.prog 66 (.pl F66):=.pl Tryz.func66 (by kernel_rfl) F66_ok
theorem F67_ok : prepF Tryz.prog ⟨[],[(0,[0]),(1,[0,11]),(2,[2]),(3,[0]),(4,[3,4,5]),(5,[2])],[]⟩ Tryz.f67 = some F67 := by kernel_rfl
theorem F67_fn:FnOK2 Tryz.prog 67 (.pl F67):=.pl Tryz.func67 (by kernel_rfl) F67_ok
theorem F68_ok : prepF Tryz.prog ⟨[],[(0,[0]),(1,[0,3]),(2,[3,7,8,9]),(3,[3,7,8,9,10]),(4,[3,5,7,8,9]),(5,[3,5,7,8,9]),(6,[3,7,8,9,25]),(7,[2]),(8,[3,7,8,9]),(9,[2]),(1000000,[3,7,8,9])],[]⟩ Tryz.f68 = some F68 := by kernel_rfl
theorem F68_fn:FnOK2 Tryz.prog 68 (.pl F68):=.pl Tryz.func68 (by kernel_rfl) F68_ok
theorem F69_ok : prepF Tryz.prog ⟨[],[(0,[0,1]),(1,[0,1,7,8]),(2,[0,1,7,8,9]),(3,[0,1,5,7,8]),(4,[0,1,5,7,8,16]),(5,[4]),(6,[0,1,7,8]),(7,[4]),(1000000,[0,1,7,8])],[]⟩ Tryz.f69 = some F69 := by kernel_rfl
theorem F69_fn:FnOK2 Tryz.prog 69 (.pl F69):=.pl Tryz.func69 (by kernel_rfl) F69_ok
theorem F70_ok : prepF Tryz.prog ⟨[],[(0,[0,1]),(1,[0,1,10]),(2,[4]),(3,[0,1,12,13]),(4,[0,1,12,13,14]),(5,[0,1,5,12,13]),(6,[0,1,12,13,24]),(7,[4]),(8,[0,1,12,13]),(9,[4]),(1000000,[0,1,12,13])],[]⟩ Tryz.f70 = some F70 := by kernel_rfl
theorem F70_fn:FnOK2 Tryz.prog 70 (.pl F70):=.pl Tryz.func70 (by kernel_rfl) F70_ok
theorem F71_ok : prepF Tryz.prog ⟨[8,9],[(0,[0,1,2]),(1,[0,1,2,14]),(2,[6]),(3,[1,2,15,16,17]),(4,[1,2,15,16,17,18]),(5,[1,2,7,8,15,16,17]),(6,[1,2,8,9,15,16,17]),(7,[1,2,15,16,17,30]),(8,[6]),(9,[1,2,15,16,17]),(10,[6]),(1000000,[1,2,15,16,17])],[]⟩ Tryz.f71 = some F71 := by kernel_rfl
theorem F71_fn:FnOK2 Tryz.prog 71 (.pl F71):=.pl Tryz.func71 (by kernel_rfl) F71_ok
theorem F72_ok : prepF Tryz.prog ⟨[],[(0,[0]),(1,[2])],[]⟩ Tryz.f72 = some F72 := by kernel_rfl
theorem F72_fn:FnOK2 Tryz.prog 72 (.pl F72):=.pl Tryz.func72 (by kernel_rfl) F72_ok
theorem F73_ok : prepF Tryz.prog ⟨[],[(0,[0,1]),(1,[0,1]),(2,[]),(3,[4])],[]⟩ Tryz.f73 = some F73 := by kernel_rfl
theorem F73_fn:FnOK2 Tryz.prog 73 (.pl F73):=.pl Tryz.func73 (by kernel_rfl) F73_ok
abbrev N74:Note:=⟨[],[(0,[0]),(1,[0,3]),(2,[0,3,4]),(3,[0,3,4]),(4,[2]),(5,[3,8]),(6,[2]),(7,[3,10]),(8,[2]),(9,[3,12]),(10,[2]),(11,[3,14]),(12,[2]),(13,[16]),(14,[2]),(15,[2])],[]⟩
def F74:DF:=pF N74 Tryz.f74
theorem F74_ok:prepF Tryz.prog N74 Tryz.f74=some F74:=by kernel_rfl
theorem F74_fn:FnOK2 Tryz.prog 74 (.pl F74):=.pl Tryz.func74 (by kernel_rfl) F74_ok
abbrev N75:Note:=⟨[],[(0,[0]),(1,[2])],[]⟩
def F75:DF:=pF N75 Tryz.f75
theorem F75_ok:prepF Tryz.prog N75 Tryz.f75=some F75:=by kernel_rfl
theorem F75_fn:FnOK2 Tryz.prog 75 (.pl F75):=.pl Tryz.func75 (by kernel_rfl) F75_ok
theorem F76_ok : prepF Tryz.prog ⟨[],[(0,[])],[]⟩ Tryz.f76 = some F76 := by kernel_rfl
theorem F76_fn:FnOK2 Tryz.prog 76 (.pl F76):=.pl Tryz.func76 (by kernel_rfl) F76_ok
theorem F77_ok : prepF Tryz.prog ⟨[],[(0,[0,1,2]),(1,[5])],[]⟩ Tryz.f77 = some F77 := by kernel_rfl
theorem F77_fn:FnOK2 Tryz.prog 77 (.pl F77):=.pl Tryz.func77 (by kernel_rfl) F77_ok
theorem F78_ok : prepF Tryz.prog ⟨[],[(0,[0,1]),(1,[4])],[]⟩ Tryz.f78 = some F78 := by kernel_rfl
theorem F78_fn:FnOK2 Tryz.prog 78 (.pl F78):=.pl Tryz.func78 (by kernel_rfl) F78_ok
theorem F80_ok : prepF Tryz.prog ⟨[],[(0,[0]),(1,[0,3]),(2,[0,3,9]),(3,[0,3,5]),(4,[0,3,5,18]),(5,[2]),(6,[0,3]),(7,[2]),(1000000,[0,3])],[]⟩ Tryz.f80 = some F80 := by kernel_rfl
theorem F80_fn:FnOK2 Tryz.prog 80 (.pl F80):=.pl Tryz.func80 (by kernel_rfl) F80_ok
theorem F84_ok : prepF Tryz.prog ⟨[2],[(0,[0,2]),(1,[0,2,4,5,6,7,8]),(2,[0,2,4,5,6,7,21]),(3,[2,3]),(4,[2,4,5,6,7,25]),(5,[2,3]),(6,[2,4,5,6,8,9]),(7,[2,4,5,6,9,33]),(8,[2,3]),(9,[2,4,6,9,10]),(10,[2,4,9,10]),(11,[2,4,9,10,11]),(12,[2,4,9,11]),(13,[2,4,9,11,53]),(14,[2,3]),(15,[2,3])],[]⟩ Tryz.f84 = some F84 := by kernel_rfl
theorem F84_fn:FnOK2 Tryz.prog 84 (.pl F84):=.pl Tryz.func84 (by kernel_rfl) F84_ok
theorem F85_ok : prepF Tryz.prog ⟨[1],[(0,[1]),(1,[1,4]),(2,[1,4,9]),(3,[1,4,9]),(4,[1,4,9]),(5,[2,3]),(6,[1,4,42]),(7,[2,3]),(8,[1,51]),(9,[2,3]),(10,[1,5]),(11,[1,5,57]),(12,[1,5]),(13,[1,5,62]),(14,[5]),(15,[5,71]),(16,[2,3]),(17,[2,3])],[]⟩ Tryz.f85 = some F85 := by kernel_rfl
theorem F85_fn:FnOK2 Tryz.prog 85 (.pl F85):=.pl Tryz.func85 (by kernel_rfl) F85_ok
theorem F86_ok : prepF Tryz.prog ⟨[],[(0,[0]),(1,[0,33]),(2,[2]),(3,[2])],[]⟩ Tryz.f86 = some F86 := by kernel_rfl
theorem F86_fn:FnOK2 Tryz.prog 86 (.pl F86):=.pl Tryz.func86 (by kernel_rfl) F86_ok
theorem F87_ok : prepF Tryz.prog ⟨[],[(0,[0]),(1,[0,34]),(2,[2]),(3,[0,37]),(4,[2]),(5,[0,3]),(6,[2])],[]⟩ Tryz.f87 = some F87 := by kernel_rfl
theorem F87_fn:FnOK2 Tryz.prog 87 (.pl F87):=.pl Tryz.func87 (by kernel_rfl) F87_ok
theorem F88_ok : prepF Tryz.prog ⟨[],[(0,[0]),(1,[0,6]),(2,[2,3]),(3,[0,30]),(4,[2,3]),(5,[0,4]),(6,[0,4,51]),(7,[2,3]),(8,[2,3])],[]⟩ Tryz.f88 = some F88 := by kernel_rfl
theorem F88_fn:FnOK2 Tryz.prog 88 (.pl F88):=.pl Tryz.func88 (by kernel_rfl) F88_ok
theorem F89_ok : prepF Tryz.prog ⟨[],[(0,[0,1]),(1,[4,5,6])],[]⟩ Tryz.f89 = some F89 := by kernel_rfl
theorem F89_fn:FnOK2 Tryz.prog 89 (.pl F89):=.pl Tryz.func89 (by kernel_rfl) F89_ok
theorem F90_ok : prepF Tryz.prog ⟨[],[(0,[0,1,2,6]),(1,[0,1,2,6,7,8]),(2,[0,1,2,6,7,8,13]),(3,[0,1,2,6,8]),(4,[0,1,2,6,7,8]),(5,[0,1,2,6,7,8]),(6,[0,1,2,6]),(7,[0,1,2,6,30]),(8,[0,1,2,6,7,8]),(9,[0,1,2,6,7,8,35]),(10,[0,1,2,6,8]),(11,[0,1,2,6,7,8]),(12,[0,1,2,6,7,8]),(13,[0,1,2,6,7,9]),(14,[0,1,2,6,7,9,54]),(15,[0,1,2,6]),(16,[0,1,2,6]),(1000000,[0,1,2,6,7,8]),(1000002,[0,1,2,6]),(1000004,[0,1,2,6,7,8])],[]⟩ Tryz.f90 = some F90 := by kernel_rfl
theorem F90_fn:FnOK2 Tryz.prog 90 (.pl F90):=.pl Tryz.func90 (by kernel_rfl) F90_ok
theorem F91_ok : prepF Tryz.prog ⟨[],[(0,[0,1]),(1,[4])],[]⟩ Tryz.f91 = some F91 := by kernel_rfl
theorem F91_fn:FnOK2 Tryz.prog 91 (.pl F91):=.pl Tryz.func91 (by kernel_rfl) F91_ok
theorem F92_ok : prepF Tryz.prog ⟨[],[(0,[0]),(1,[0,7]),(2,[2,3]),(3,[0,2,3,4]),(4,[0,2,3,4,22]),(5,[2,3]),(6,[0,2,3,4,5]),(7,[0,2,3,4,5,25]),(8,[0,2,3,4,5]),(9,[0,2,3,4,5,32]),(10,[2,3]),(11,[0,2,3,4,5]),(12,[2,3,48]),(13,[2,3]),(14,[2,3]),(1000000,[0,2,3,4,5])],[]⟩ Tryz.f92 = some F92 := by kernel_rfl
theorem F92_fn:FnOK2 Tryz.prog 92 (.pl F92):=.pl Tryz.func92 (by kernel_rfl) F92_ok
theorem F96_ok : prepF Tryz.prog ⟨[],[(0,[0,4]),(1,[4,7]),(2,[2,4,7]),(3,[2,4,7,13]),(4,[2,4,7]),(5,[2,4,7,8]),(6,[2,4,7,8,28]),(7,[2,3,4,5,6]),(8,[2,3,4,7]),(9,[2,3,4,7,36]),(10,[2,3,7,8]),(11,[2,3,7,8,41]),(12,[2,3,4,5,6]),(13,[2,3,4,7]),(14,[2,3,4,7,51]),(15,[2,3,4,5,6]),(16,[2,3,4,7,62]),(17,[2,3,4,5,6]),(18,[2,3,4,5]),(19,[2,3,4,5,9]),(20,[2,3,4,5,9,69]),(21,[2,3,4,5,9]),(22,[2,3,4,5,80]),(23,[2,3,4,5,6]),(24,[2,3,4,5,6])],[]⟩ Tryz.f96 = some F96 := by kernel_rfl
theorem F96_fn:FnOK2 Tryz.prog 96 (.pl F96):=.pl Tryz.func96 (by kernel_rfl) F96_ok
theorem F97_ok : prepF Tryz.prog ⟨[],[(0,[0]),(1,[0,4]),(2,[0,4]),(3,[0,4,14]),(4,[2,3]),(5,[4,5]),(6,[5,21]),(7,[2,3]),(8,[2,3])],[]⟩ Tryz.f97 = some F97 := by kernel_rfl
theorem F97_fn:FnOK2 Tryz.prog 97 (.pl F97):=.pl Tryz.func97 (by kernel_rfl) F97_ok
abbrev N98:Note:=⟨[],[(0,[0,1]),(1,[0,1,12]),(2,[4]),(3,[0,1,21]),(4,[4]),(5,[0,1,5,6]),(6,[0,1,5,31]),(7,[4]),(8,[4])],[]⟩
def F98:DF:=pF N98 Tryz.f98
theorem F98_ok:prepF Tryz.prog N98 Tryz.f98=some F98:=by kernel_rfl
theorem F98_fn:FnOK2 Tryz.prog 98 (.pl F98):=.pl Tryz.func98 (by kernel_rfl) F98_ok
abbrev N99:Note:=⟨[],[(0,[0,1]),(1,[0,1,12]),(2,[4]),(3,[0,1,21]),(4,[4]),(5,[0,1,5,6]),(6,[0,1,5,31]),(7,[4]),(8,[4])],[]⟩
def F99:DF:=pF N99 Tryz.f99
theorem F99_ok:prepF Tryz.prog N99 Tryz.f99=some F99:=by kernel_rfl
theorem F99_fn:FnOK2 Tryz.prog 99 (.pl F99):=.pl Tryz.func99 (by kernel_rfl) F99_ok
theorem F100_ok : prepF Tryz.prog ⟨[],[(0,[0]),(1,[0,3]),(2,[0,3,13]),(3,[0,3]),(4,[2]),(1000000,[0,3])],[]⟩ Tryz.f100 = some F100 := by kernel_rfl
theorem F100_fn:FnOK2 Tryz.prog 100 (.pl F100):=.pl Tryz.func100 (by kernel_rfl) F100_ok
abbrev N101:Note:=⟨[],[(0,[0]),(1,[2])],[]⟩
def F101:DF:=pF N101 Tryz.f101
theorem F101_ok:prepF Tryz.prog N101 Tryz.f101=some F101:=by kernel_rfl
theorem F101_fn:FnOK2 Tryz.prog 101 (.pl F101):=.pl Tryz.func101 (by kernel_rfl) F101_ok
theorem F102_ok : prepF Tryz.prog ⟨[],[(0,[0]),(1,[0,25]),(2,[2]),(3,[2])],[]⟩ Tryz.f102 = some F102 := by kernel_rfl
theorem F102_fn:FnOK2 Tryz.prog 102 (.pl F102):=.pl Tryz.func102 (by kernel_rfl) F102_ok
theorem F103_ok : prepF Tryz.prog ⟨[],[(0,[0,1,2]),(1,[6])],[]⟩ Tryz.f103 = some F103 := by kernel_rfl
theorem F103_fn:FnOK2 Tryz.prog 103 (.pl F103):=.pl Tryz.func103 (by kernel_rfl) F103_ok
theorem F104_ok : prepF Tryz.prog ⟨[],[(0,[0,1]),(1,[0,5]),(2,[0,5,6]),(3,[0,5,6]),(4,[0,5,6]),(5,[0,5,6]),(6,[4]),(7,[0,11]),(8,[25]),(9,[4]),(10,[4]),(11,[4])],[]⟩ Tryz.f104 = some F104 := by kernel_rfl
theorem F104_fn:FnOK2 Tryz.prog 104 (.pl F104):=.pl Tryz.func104 (by kernel_rfl) F104_ok
abbrev N105:Note:=⟨[],[(0,[0,1]),(1,[0,1,12]),(2,[4]),(3,[0,1,21]),(4,[4]),(5,[0,1,5,6]),(6,[0,1,5,34]),(7,[4]),(8,[4])],[]⟩
def F105:DF:=pF N105 Tryz.f105
theorem F105_ok:prepF Tryz.prog N105 Tryz.f105=some F105:=by kernel_rfl
theorem F105_fn:FnOK2 Tryz.prog 105 (.pl F105):=.pl Tryz.func105 (by kernel_rfl) F105_ok
theorem F106_ok : prepF Tryz.prog ⟨[],[(0,[0,1]),(1,[4])],[]⟩ Tryz.f106 = some F106 := by kernel_rfl
theorem F106_fn:FnOK2 Tryz.prog 106 (.pl F106):=.pl Tryz.func106 (by kernel_rfl) F106_ok
theorem F107_ok : prepF Tryz.prog ⟨[],[(0,[0,1]),(1,[0,1,7]),(2,[0,1,7,12]),(3,[4,5,6]),(4,[4,5,6])],[]⟩ Tryz.f107 = some F107 := by kernel_rfl
theorem F107_fn:FnOK2 Tryz.prog 107 (.pl F107):=.pl Tryz.func107 (by kernel_rfl) F107_ok
theorem F108_ok : prepF Tryz.prog ⟨[],[(0,[0,1,2,3,8]),(1,[0,1,2,3,8,14]),(2,[0,1,2,3,8]),(3,[0,1,2,3,8,9]),(4,[0,1,2,3,8,9,34]),(5,[0,1,2,3,8,9]),(6,[0,1,2,3,8,9]),(1000000,[0,1,2,3,8]),(1000002,[0,1,2,3,8,9])],[]⟩ Tryz.f108 = some F108 := by kernel_rfl
theorem F108_fn:FnOK2 Tryz.prog 108 (.pl F108):=.pl Tryz.func108 (by kernel_rfl) F108_ok
theorem F109_ok : prepF Tryz.prog ⟨[],[(0,[0,1,2,3,4,28]),(1,[0,1,3,4,10]),(2,[0,1,4,10,11]),(3,[0,1,4,10,11,33]),(4,[0,1,4,10,11,12]),(5,[0,1,4,10,11,12,50]),(6,[0,1,4,10,11]),(7,[0,1,4,10,11]),(8,[0,10,13]),(9,[0,10,13,58]),(10,[0,10,13]),(11,[0,10,13]),(12,[0,1,2,3,4,80]),(13,[0,2,4,14]),(14,[0,2,4,14,15]),(15,[0,2,4,14,15,85]),(16,[0,2,4,14,15,16]),(17,[0,2,4,14,15,16,103]),(18,[0,2,4,14,15]),(19,[0,2,4,14,15]),(20,[0,14,17]),(21,[0,14,17,110]),(22,[0,14,17]),(23,[0,14,17]),(24,[0,1,2,3,4,18]),(25,[0,1,2,3,4,18,19]),(26,[0,1,2,3,4,18,19]),(27,[0,1,2,3,4,18,19,140]),(28,[0,1,2,3,4,18,19,20]),(29,[0,1,2,3,4,18,19,20,21]),(30,[0,1,2,3,4,18,19,20]),(31,[0,1,2,3,4,18,19,20,21]),(32,[0,1,2,3,4,18,19,20,21,22]),(33,[0,1,2,3,4,18,19,20,21,22,151]),(34,[0,1,2,3,4,18,19,20,21,22,23]),(35,[0,1,2,3,4,18,19,20,21,22,23,171]),(36,[0,1,2,3,4,18,19,20,21,22]),(37,[0,1,2,3,4,18,19,20,21,22]),(38,[0,1,2,3,4,18,20,24]),(39,[0,1,2,3,4,18,20,24,185]),(40,[0,1,3,4,18,20,24]),(41,[0,1,3,4,18,20,24,199]),(42,[0,3,4,18,24]),(43,[0,3,4,18,24,213]),(44,[]),(1000000,[0,1,4,10,11]),(1000002,[0,10,13]),(1000004,[0,2,4,14,15]),(1000006,[0,14,17]),(1000008,[0,1,2,3,4,18,19,20,21,22])],[]⟩ Tryz.f109 = some F109 := by kernel_rfl
theorem F109_fn:FnOK2 Tryz.prog 109 (.pl F109):=.pl Tryz.func109 (by kernel_rfl) F109_ok
theorem F111_ok : prepF Tryz.prog ⟨[],[(0,[0]),(1,[0,5]),(2,[2,3,4]),(3,[0,11]),(4,[2,3,4]),(5,[0,18]),(6,[2,3,4]),(7,[0,25]),(8,[2,3,4]),(9,[2,3,4])],[]⟩ Tryz.f111 = some F111 := by kernel_rfl
theorem F111_fn:FnOK2 Tryz.prog 111 (.pl F111):=.pl Tryz.func111 (by kernel_rfl) F111_ok
theorem F112_ok : prepF Tryz.prog ⟨[],[(0,[0]),(1,[2])],[]⟩ Tryz.f112 = some F112 := by kernel_rfl
theorem F112_fn:FnOK2 Tryz.prog 112 (.pl F112):=.pl Tryz.func112 (by kernel_rfl) F112_ok
theorem F119_ok : prepF Tryz.prog ⟨[],[(0,[0,1]),(1,[4])],[]⟩ Tryz.f119 = some F119 := by kernel_rfl
theorem F119_fn:FnOK2 Tryz.prog 119 (.pl F119):=.pl Tryz.func119 (by kernel_rfl) F119_ok
theorem F120_ok : prepF Tryz.prog ⟨[],[(0,[0,1]),(1,[4])],[]⟩ Tryz.f120 = some F120 := by kernel_rfl
theorem F120_fn:FnOK2 Tryz.prog 120 (.pl F120):=.pl Tryz.func120 (by kernel_rfl) F120_ok
abbrev N121:Note:=⟨[],[(0,[0]),(1,[0,4,5]),(2,[0,4,5,12]),(3,[2,3]),(4,[2,3])],[]⟩
def F121:DF:=pF N121 Tryz.f121
theorem F121_ok:prepF Tryz.prog N121 Tryz.f121=some F121:=by kernel_rfl
theorem F121_fn:FnOK2 Tryz.prog 121 (.pl F121):=.pl Tryz.func121 (by kernel_rfl) F121_ok
abbrev N122:Note:=⟨[],[(0,[0,1]),(1,[0,1,13]),(2,[0,1]),(3,[4]),(1000000,[0,1])],[]⟩
def F122:DF:=pF N122 Tryz.f122
theorem F122_ok:prepF Tryz.prog N122 Tryz.f122=some F122:=by kernel_rfl
theorem F122_fn:FnOK2 Tryz.prog 122 (.pl F122):=.pl Tryz.func122 (by kernel_rfl) F122_ok
abbrev N123:Note:=⟨[2],[(0,[0,2]),(1,[0,2,4]),(2,[0,2,4,9]),(3,[0,2,4]),(4,[0,2,4,5]),(5,[0,2,4,5,16]),(6,[2,3]),(7,[0,2,4]),(8,[2,3]),(1000000,[0,2,4])],[]⟩
def F123:DF:=pF N123 Tryz.f123
theorem F123_ok:prepF Tryz.prog N123 Tryz.f123=some F123:=by kernel_rfl
theorem F123_fn:FnOK2 Tryz.prog 123 (.pl F123):=.pl Tryz.func123 (by kernel_rfl) F123_ok
abbrev N124:Note:=⟨[],[(0,[0,1]),(1,[0,1,7]),(2,[0,1,12]),(3,[0,1]),(4,[4]),(1000000,[0,1])],[]⟩
def F124:DF:=pF N124 Tryz.f124
theorem F124_ok:prepF Tryz.prog N124 Tryz.f124=some F124:=by kernel_rfl
theorem F124_fn:FnOK2 Tryz.prog 124 (.pl F124):=.pl Tryz.func124 (by kernel_rfl) F124_ok
abbrev N125:Note:=⟨[],[(0,[0,1]),(1,[0,1,9]),(2,[0,1,5,6]),(3,[0,1,6,18]),(4,[0,1]),(5,[4]),(1000000,[0,1])],[]⟩
def F125:DF:=pF N125 Tryz.f125
theorem F125_ok:prepF Tryz.prog N125 Tryz.f125=some F125:=by kernel_rfl
theorem F125_fn:FnOK2 Tryz.prog 125 (.pl F125):=.pl Tryz.func125 (by kernel_rfl) F125_ok
abbrev N126:Note:=⟨[],[(0,[0,1]),(1,[0,1,16]),(2,[0,1]),(3,[4]),(1000000,[0,1])],[]⟩
def F126:DF:=pF N126 Tryz.f126
theorem F126_ok:prepF Tryz.prog N126 Tryz.f126=some F126:=by kernel_rfl
theorem F126_fn:FnOK2 Tryz.prog 126 (.pl F126):=.pl Tryz.func126 (by kernel_rfl) F126_ok
abbrev N127:Note:=⟨[],[(0,[0,1]),(1,[0,1,7]),(2,[0,1,15]),(3,[0,1]),(4,[4]),(1000000,[0,1])],[]⟩
def F127:DF:=pF N127 Tryz.f127
theorem F127_ok:prepF Tryz.prog N127 Tryz.f127=some F127:=by kernel_rfl
theorem F127_fn:FnOK2 Tryz.prog 127 (.pl F127):=.pl Tryz.func127 (by kernel_rfl) F127_ok
abbrev N128:Note:=⟨[],[(0,[0,1]),(1,[0,1,9]),(2,[0,1,5,6]),(3,[0,1,5,6,17]),(4,[0,1,5,6]),(5,[0,1,6,26]),(6,[0,1]),(7,[4]),(1000000,[0,1])],[]⟩
def F128:DF:=pF N128 Tryz.f128
theorem F128_ok:prepF Tryz.prog N128 Tryz.f128=some F128:=by kernel_rfl
theorem F128_fn:FnOK2 Tryz.prog 128 (.pl F128):=.pl Tryz.func128 (by kernel_rfl) F128_ok
theorem F129_ok : prepF Tryz.prog ⟨[],[(0,[0]),(1,[2])],[]⟩ Tryz.f129 = some F129 := by kernel_rfl
theorem F129_fn:FnOK2 Tryz.prog 129 (.pl F129):=.pl Tryz.func129 (by kernel_rfl) F129_ok
abbrev N130:Note:=⟨[],[(0,[0]),(1,[2])],[]⟩
def F130:DF:=pF N130 Tryz.f130
theorem F130_ok:prepF Tryz.prog N130 Tryz.f130=some F130:=by kernel_rfl
theorem F130_fn:FnOK2 Tryz.prog 130 (.pl F130):=.pl Tryz.func130 (by kernel_rfl) F130_ok
theorem F131_ok : prepF Tryz.prog ⟨[],[(0,[0,1]),(1,[4])],[]⟩ Tryz.f131 = some F131 := by kernel_rfl
theorem F131_fn:FnOK2 Tryz.prog 131 (.pl F131):=.pl Tryz.func131 (by kernel_rfl) F131_ok
theorem F132_ok : prepF Tryz.prog ⟨[],[(0,[0,1]),(1,[0,1,5]),(2,[0,1,5,16]),(3,[4]),(4,[0,1,5,24]),(5,[4]),(6,[0,1,5,31]),(7,[4]),(8,[0,1,5,36]),(9,[4]),(10,[0,1,5,6]),(11,[0,1,5,6,7]),(12,[0,1,5,6,7,8]),(13,[0,1,5,6,7,8,9]),(14,[0,1,5,6,7,8,9,10]),(15,[0,1,5,6,7,8,9,10,59]),(16,[0,1,5,6,7,8,9,10,64]),(17,[0,1,5,6,7,8,9,10,11]),(18,[0,1,5,6,7,8,9,10,11,73]),(19,[4]),(20,[0,1,5,6,7,8,9,10]),(21,[0,1,5,6,7,8,9,10,93]),(22,[4]),(23,[0,1,5,6,7,8,9,10]),(24,[0,1,5,6,7,8,9,10]),(25,[0,1,5,6,7,8,9,10,107]),(26,[8,12]),(27,[8,12,114]),(28,[4]),(29,[4]),(30,[0,1,5,6,7,8,9,10,132]),(31,[8,13]),(32,[8,13,139]),(33,[4]),(34,[4]),(35,[4]),(1000001,[0,1,5,6,7,8,9,10])],[]⟩ Tryz.f132 = some F132 := by kernel_rfl
theorem F132_fn:FnOK2 Tryz.prog 132 (.pl F132):=.pl Tryz.func132 (by kernel_rfl) F132_ok
theorem F133_ok : prepF Tryz.prog ⟨[],[(0,[0,2,3,4,10]),(1,[0,2,4,10,11]),(2,[0,2,4,10,11,20]),(3,[0,2,4,10,11,23]),(4,[0,2,4,10,11]),(5,[0,2,4,10,11]),(6,[0,2,4,10,11]),(7,[0,2,4,10,11]),(8,[]),(1000000,[0,2,4,10,11])],[]⟩ Tryz.f133 = some F133 := by kernel_rfl
theorem F133_fn:FnOK2 Tryz.prog 133 (.pl F133):=.pl Tryz.func133 (by kernel_rfl) F133_ok
theorem F137_ok : prepF Tryz.prog ⟨[],[(0,[0,1]),(1,[4])],[]⟩ Tryz.f137 = some F137 := by kernel_rfl
theorem F137_fn:FnOK2 Tryz.prog 137 (.pl F137):=.pl Tryz.func137 (by kernel_rfl) F137_ok
theorem F138_ok : prepF Tryz.prog ⟨[],[(0,[0,1]),(1,[0,1,7]),(2,[4]),(3,[4])],[]⟩ Tryz.f138 = some F138 := by kernel_rfl
theorem F138_fn:FnOK2 Tryz.prog 138 (.pl F138):=.pl Tryz.func138 (by kernel_rfl) F138_ok
abbrev N139:Note:=⟨[],[(0,[0]),(1,[0,4]),(2,[0,30]),(3,[0,5]),(4,[0,5,39]),(5,[0,5]),(6,[0,5,44]),(7,[2,3]),(8,[0,5,6]),(9,[5,6,47,48,49]),(10,[5,6,47,48,49,50]),(11,[5,6,8,47,48,49]),(12,[5,6,8,47,48,49]),(13,[5,6,8,47,48,49,56]),(14,[2,3]),(15,[5,6,47,48,49]),(16,[5,6,47,48,49]),(17,[6,66]),(18,[6]),(19,[2,3]),(20,[9,10]),(21,[2,3]),(1000000,[5,6,47,48,49])],[]⟩
def F139:DF:=pF N139 Tryz.f139
theorem F139_ok:prepF Tryz.prog N139 Tryz.f139=some F139:=by kernel_rfl
theorem F139_fn:FnOK2 Tryz.prog 139 (.pl F139):=.pl Tryz.func139 (by kernel_rfl) F139_ok
abbrev N140:Note:=⟨[],[(0,[0,1,2,3,4]),(1,[0,1,2,3,4,11]),(2,[0,1,2,3,4,11,12]),(3,[10]),(4,[0,1,2,3,4,11,19]),(5,[10]),(6,[0,1,2,3,4,11,26]),(7,[10]),(8,[0,1,3,4,34]),(9,[10]),(10,[10])],[]⟩
def F140:DF:=pF N140 Tryz.f140
theorem F140_ok:prepF Tryz.prog N140 Tryz.f140=some F140:=by kernel_rfl
theorem F140_fn:FnOK2 Tryz.prog 140 (.pl F140):=.pl Tryz.func140 (by kernel_rfl) F140_ok
abbrev N141:Note:=⟨[],[(0,[0,1]),(1,[4])],[]⟩
def F141:DF:=pF N141 Tryz.f141
theorem F141_ok:prepF Tryz.prog N141 Tryz.f141=some F141:=by kernel_rfl
theorem F141_fn:FnOK2 Tryz.prog 141 (.pl F141):=.pl Tryz.func141 (by kernel_rfl) F141_ok
abbrev N142:Note:=⟨[],[(0,[0]),(1,[0,10]),(2,[2,3]),(3,[2,3])],[]⟩
def F142:DF:=pF N142 Tryz.f142
theorem F142_ok:prepF Tryz.prog N142 Tryz.f142=some F142:=by kernel_rfl
theorem F142_fn:FnOK2 Tryz.prog 142 (.pl F142):=.pl Tryz.func142 (by kernel_rfl) F142_ok
abbrev N143:Note:=⟨[],[(0,[0,1]),(1,[4])],[]⟩
def F143:DF:=pF N143 Tryz.f143
theorem F143_ok:prepF Tryz.prog N143 Tryz.f143=some F143:=by kernel_rfl
theorem F143_fn:FnOK2 Tryz.prog 143 (.pl F143):=.pl Tryz.func143 (by kernel_rfl) F143_ok
abbrev N144:Note:=⟨[],[(0,[0]),(1,[0,4]),(2,[0,4,10]),(3,[2,3]),(4,[0,4,5]),(5,[0,2,4,5]),(6,[0,2,4,5,18]),(7,[2,3]),(8,[0,4,5,6]),(9,[0,4,5,6]),(10,[0,4,5,6,27]),(11,[0,4,5,6]),(12,[0,4,5,6,33]),(13,[0,4,5,35]),(14,[0,4,5]),(15,[2,3,4,5]),(16,[2,3,48]),(17,[2,3]),(18,[2,3]),(1000000,[0,4,5,6])],[]⟩
def F144:DF:=pF N144 Tryz.f144
theorem F144_ok:prepF Tryz.prog N144 Tryz.f144=some F144:=by kernel_rfl
theorem F144_fn:FnOK2 Tryz.prog 144 (.pl F144):=.pl Tryz.func144 (by kernel_rfl) F144_ok
abbrev N145:Note:=⟨[],[(0,[0,1]),(1,[0,1,11]),(2,[0,17]),(3,[4]),(4,[0,5]),(5,[0,5,6]),(6,[0,5,6,23]),(7,[0,5,6]),(8,[0,5,6,7]),(9,[0,5,7]),(10,[5,7,34]),(11,[5,7]),(12,[4]),(13,[4]),(14,[9]),(15,[4])],[]⟩
def F145:DF:=pF N145 Tryz.f145
theorem F145_ok:prepF Tryz.prog N145 Tryz.f145=some F145:=by kernel_rfl
theorem F145_fn:FnOK2 Tryz.prog 145 (.pl F145):=.pl Tryz.func145 (by kernel_rfl) F145_ok
theorem F146_ok : prepF Tryz.prog ⟨[],[(0,[0,1]),(1,[4])],[]⟩ Tryz.f146 = some F146 := by kernel_rfl
theorem F146_fn:FnOK2 Tryz.prog 146 (.pl F146):=.pl Tryz.func146 (by kernel_rfl) F146_ok
abbrev N148:Note:=⟨[],[(0,[0]),(1,[2])],[]⟩
def F148:DF:=pF N148 Tryz.f148
theorem F148_ok:prepF Tryz.prog N148 Tryz.f148=some F148:=by kernel_rfl
theorem F148_fn:FnOK2 Tryz.prog 148 (.pl F148):=.pl Tryz.func148 (by kernel_rfl) F148_ok
abbrev N149:Note:=⟨[],[(0,[0,1]),(1,[0,1,5,6]),(2,[0,1,5,6,7]),(3,[0,1,5,6,7,8]),(4,[0,1,5,6,7,8,9]),(5,[0,1,5,6,7,8,9,20]),(6,[0,1,5,6,7,8,9]),(7,[0,1,5,6,7,8,9]),(8,[0,1,5,6,7,8,39]),(9,[4]),(10,[0,1,5,6,7,8,10]),(11,[0,1,5,6,7,8,10,44]),(12,[0,1,5,6,7,8,10]),(13,[0,1,5,6,7,8,10]),(14,[0,1,5,6,7,8,10]),(15,[0,1,5,6,7,8,10]),(16,[0,1,5,6,7,8,10,77]),(17,[4]),(18,[4]),(1000000,[0,1,5,6,7,8,9]),(1000002,[0,1,5,6,7,8,10])],[]⟩
def F149:DF:=pF N149 Tryz.f149
theorem F149_ok:prepF Tryz.prog N149 Tryz.f149=some F149:=by kernel_rfl
theorem F149_fn:FnOK2 Tryz.prog 149 (.pl F149):=.pl Tryz.func149 (by kernel_rfl) F149_ok
theorem F150_ok : prepF Tryz.prog ⟨[],[(0,[0,1,2,3,10]),(1,[0,1,2,3,10,13]),(2,[0,1,2,3,10]),(3,[0,1,2,3,10]),(1000000,[0,1,2,3,10])],[]⟩ Tryz.f150 = some F150 := by kernel_rfl
theorem F150_fn:FnOK2 Tryz.prog 150 (.pl F150):=.pl Tryz.func150 (by kernel_rfl) F150_ok
abbrev N152:Note:=⟨[],[(0,[0,1,2]),(1,[0,1,2,13]),(2,[6,7]),(3,[0,1,2,8]),(4,[0,1,2,8,16]),(5,[0,1,2,8,16,17]),(6,[0,1,2,8]),(7,[0,1,2,8,21]),(8,[0,1,2]),(9,[0,1,2,8]),(10,[0,1,2,8]),(11,[2,7,8,9]),(12,[2,7,8,9,38]),(13,[6,7]),(14,[2,8,9,41]),(15,[2,8,9]),(16,[8,9,10]),(17,[8,9,10,52]),(18,[6,7]),(19,[8,9,10,62]),(20,[6,7]),(21,[8,11]),(22,[11,69]),(23,[11]),(24,[6,7])],[]⟩
def F152:DF:=pF N152 Tryz.f152
theorem F152_ok:prepF Tryz.prog N152 Tryz.f152=some F152:=by kernel_rfl
theorem F152_fn:FnOK2 Tryz.prog 152 (.pl F152):=.pl Tryz.func152 (by kernel_rfl) F152_ok
abbrev N153:Note:=⟨[],[(0,[0,1]),(1,[4])],[]⟩
def F153:DF:=pF N153 Tryz.f153
theorem F153_ok:prepF Tryz.prog N153 Tryz.f153=some F153:=by kernel_rfl
theorem F153_fn:FnOK2 Tryz.prog 153 (.pl F153):=.pl Tryz.func153 (by kernel_rfl) F153_ok
abbrev N154:Note:=⟨[],[(0,[0,1]),(1,[4])],[]⟩
def F154:DF:=pF N154 Tryz.f154
theorem F154_ok:prepF Tryz.prog N154 Tryz.f154=some F154:=by kernel_rfl
theorem F154_fn:FnOK2 Tryz.prog 154 (.pl F154):=.pl Tryz.func154 (by kernel_rfl) F154_ok
abbrev N155:Note:=⟨[],[(0,[0,1,2]),(1,[6])],[]⟩
def F155:DF:=pF N155 Tryz.f155
theorem F155_ok:prepF Tryz.prog N155 Tryz.f155=some F155:=by kernel_rfl
theorem F155_fn:FnOK2 Tryz.prog 155 (.pl F155):=.pl Tryz.func155 (by kernel_rfl) F155_ok
abbrev N156:Note:=⟨[],[(0,[0,1,2]),(1,[6])],[]⟩
def F156:DF:=pF N156 Tryz.f156
theorem F156_ok:prepF Tryz.prog N156 Tryz.f156=some F156:=by kernel_rfl
theorem F156_fn:FnOK2 Tryz.prog 156 (.pl F156):=.pl Tryz.func156 (by kernel_rfl) F156_ok
abbrev N157:Note:=⟨[9],[(0,[0]),(1,[0,4]),(2,[0,4,16]),(3,[2,3]),(4,[0,4,5]),(5,[0,4,5,6]),(6,[0,4,5,6,23]),(7,[0,7]),(8,[2,3]),(9,[0,4,5,6,8]),(10,[0,4,5,8,9]),(11,[0,5,8,9,45]),(12,[2,3]),(13,[0,5,8,9,10]),(14,[0,5,8,10,57]),(15,[2,3]),(16,[0,5,8,10,59]),(17,[2,3]),(18,[0,5,8,10,11]),(19,[0,5,8,10,11,75]),(20,[2,3]),(21,[0,5,10,11,77]),(22,[2,3]),(23,[5,10,11,12]),(24,[5,10,11,12,98]),(25,[2,3]),(26,[2,3])],[]⟩
def F157:DF:=pF N157 Tryz.f157
theorem F157_ok:prepF Tryz.prog N157 Tryz.f157=some F157:=by kernel_rfl
theorem F157_fn:FnOK2 Tryz.prog 157 (.pl F157):=.pl Tryz.func157 (by kernel_rfl) F157_ok
abbrev N158:Note:=⟨[],[(0,[0,1]),(1,[0,7]),(2,[0,7,8]),(3,[0,7,8,9]),(4,[0,7,8,9]),(5,[0,7,8,9,26]),(6,[0,7,8,9,33]),(7,[0,7,8,9,11]),(8,[0,7,8,9,11,43]),(9,[4]),(10,[0,7,8,9]),(11,[0,7,8,9,12]),(12,[0,7,8,9,12,51]),(13,[0,7,8,9,12]),(14,[0,7,8,9,12,64]),(15,[4]),(16,[0,7,8,9,10]),(17,[0,7,8,9,10]),(18,[0,7,8,9,98]),(19,[4]),(20,[8,9,13]),(21,[8,9,13,108]),(22,[4]),(23,[0,7,8,9,14]),(24,[0,7,8,9,14,15]),(25,[0,7,8,9,14,15,124]),(26,[0,7,8,9,14,15]),(27,[0,7,8,9,14,15,139]),(28,[0,7,8,9,14,15,16]),(29,[0,7,8,9,14,15,16,143]),(30,[0,7,8,9,14,15,16]),(31,[0,7,8,9,14,15,16,156]),(32,[4]),(33,[4]),(34,[0,1,160]),(35,[4]),(36,[0,1,171]),(37,[175]),(38,[175,176,177]),(39,[5,6,175]),(40,[5,175,181]),(41,[4]),(42,[4]),(43,[0,1,183]),(44,[4]),(1000001,[0,7,8,9]),(1000003,[0,7,8,9,12]),(1000005,[0,7,8,9,14,15]),(1000007,[0,7,8,9,14,15,16]),(1000009,[175])],[]⟩
def F158:DF:=pF N158 Tryz.f158
theorem F158_ok:prepF Tryz.prog N158 Tryz.f158=some F158:=by kernel_rfl
theorem F158_fn:FnOK2 Tryz.prog 158 (.pl F158):=.pl Tryz.func158 (by kernel_rfl) F158_ok
abbrev N159:Note:=⟨[],[(0,[0]),(1,[2])],[]⟩
def F159:DF:=pF N159 Tryz.f159
theorem F159_ok:prepF Tryz.prog N159 Tryz.f159=some F159:=by kernel_rfl
theorem F159_fn:FnOK2 Tryz.prog 159 (.pl F159):=.pl Tryz.func159 (by kernel_rfl) F159_ok
abbrev N160:Note:=⟨[],[(0,[0]),(1,[0,4]),(2,[2]),(3,[2])],[]⟩
def F160:DF:=pF N160 Tryz.f160
theorem F160_ok:prepF Tryz.prog N160 Tryz.f160=some F160:=by kernel_rfl
theorem F160_fn:FnOK2 Tryz.prog 160 (.pl F160):=.pl Tryz.func160 (by kernel_rfl) F160_ok
abbrev N161:Note:=⟨[],[(0,[0]),(1,[0,3]),(2,[2])],[]⟩
def F161:DF:=pF N161 Tryz.f161
theorem F161_ok:prepF Tryz.prog N161 Tryz.f161=some F161:=by kernel_rfl
theorem F161_fn:FnOK2 Tryz.prog 161 (.pl F161):=.pl Tryz.func161 (by kernel_rfl) F161_ok
abbrev N162:Note:=⟨[],[(0,[0,1,4]),(1,[0,1,4,20]),(2,[0,1,4,5]),(3,[0,1,4,5]),(4,[0,1,4,6,7]),(5,[0,1,4,6,8,9]),(6,[0,1,4,8,9,10,11]),(7,[0,1,4,8,10,11]),(8,[0,1,4,10,11]),(9,[0,1,4,10]),(10,[0,1,4]),(11,[0,1,4]),(12,[0,4,12]),(13,[0,4,12,99]),(14,[0,4,12,13]),(15,[0,4,12,13]),(16,[0,4,12,14,15]),(17,[0,4,12,14]),(18,[0,4,12]),(19,[0,4,12]),(20,[0,4,12,139]),(21,[0,4,12,16]),(22,[0,4,12,16]),(23,[0,4,12]),(24,[0,4,12]),(25,[0,12,161]),(26,[]),(1000000,[0,1,4])],[]⟩
def F162:DF:=pF N162 Tryz.f162
theorem F162_ok:prepF Tryz.prog N162 Tryz.f162=some F162:=by kernel_rfl
theorem F162_fn:FnOK2 Tryz.prog 162 (.pl F162):=.pl Tryz.func162 (by kernel_rfl) F162_ok
abbrev N163:Note:=⟨[],[(0,[0,1,2,3,4,10,11]),(1,[0,1,2,3,4,10,11,28]),(2,[0,1,2,3,4,10,11]),(3,[0,1,2,3,4,10,11,12]),(4,[0,1,2,3,4,10,11,12,13]),(5,[0,1,2,3,4,10,11,12,13,30]),(6,[0,1,2,3,4,10,11,12,13]),(7,[0,1,2,3,4,10,11,12,13,34]),(8,[0,1,2,3,4,10,11,12,13,14]),(9,[0,1,2,3,4,10,11,12,13,14,15]),(10,[0,1,3,4,10,11,12,13,14,15,16]),(11,[0,1,3,4,10,11,12,13,14,15,16,46]),(12,[0,1,3,4,10,11,12,13,14,15,16]),(13,[0,1,3,4,10,11,12,13,14,15,16]),(14,[0,1,3,4,10,11,12,13,14,15,16]),(15,[0,1,3,4,10,11,12,13]),(16,[0,3,4,10,11,12,13]),(17,[0,1,3,4,10,11,12,13,17]),(18,[0,1,3,4,10,11,12,13,17,68]),(19,[0,1,3,4,10,11,12,13,17]),(20,[0,1,3,4,10,11,12,13,17,18]),(21,[0,3,4,10,11,12,13,17,18]),(22,[0,1,3,4,10,11,12,13,17]),(23,[0,1,3,4,10,11,12,13]),(24,[0,3,4,10,11,12,13]),(25,[0,4,10,11,12,13,89]),(26,[0,4,10,11,12,13]),(27,[0,4,10,11,12,13]),(28,[0,10,11,12,13,94]),(29,[10,11]),(30,[10,11]),(1000000,[0,1,3,4,10,11,12,13,14,15,16]),(1000002,[0,1,3,4,10,11,12,13,17])],[]⟩
def F163:DF:=pF N163 Tryz.f163
theorem F163_ok:prepF Tryz.prog N163 Tryz.f163=some F163:=by kernel_rfl
theorem F163_fn:FnOK2 Tryz.prog 163 (.pl F163):=.pl Tryz.func163 (by kernel_rfl) F163_ok
abbrev N165:Note:=⟨[],[(0,[0]),(1,[0,4]),(2,[0,4,5]),(3,[0,4,5,12]),(4,[0,4,5]),(5,[0,4,5]),(6,[0,4,6,7]),(7,[4,6,7,8]),(8,[4,6,7,8,25]),(9,[4,6,7,8]),(10,[4,6,7,8,30]),(11,[4,6,7,8]),(12,[4,6,7,8]),(13,[2,3]),(1000000,[0,4,5]),(1000002,[4,6,7,8])],[]⟩
def F165:DF:=pF N165 Tryz.f165
theorem F165_ok:prepF Tryz.prog N165 Tryz.f165=some F165:=by kernel_rfl
theorem F165_fn:FnOK2 Tryz.prog 165 (.pl F165):=.pl Tryz.func165 (by kernel_rfl) F165_ok
abbrev N166:Note:=⟨[],[(0,[0,1,2]),(1,[0,1,2,19]),(2,[6,7]),(3,[0,1,2,8]),(4,[0,1,2,8,9]),(5,[6,7]),(6,[0,1,2,8,9,25]),(7,[0,2,8,9,32]),(8,[0,1,2,8,9]),(9,[0,1,2,8,9,37]),(10,[0,1,2,8,9]),(11,[0,1,2,8,9]),(12,[0,2,8,9,40]),(13,[0,1,2,8,9]),(14,[0,1,2,8,9]),(15,[0,2,8,9,52]),(16,[0,1,2,8,9]),(17,[0,1,2,8,9]),(18,[0,2,8,9,64]),(19,[0,1,2,8,9]),(20,[0,1,2,8,9]),(21,[0,1,2,8,9,77]),(22,[0,1,2,8,9]),(23,[0,1,2,8,9,83]),(24,[6,7]),(25,[0,1,2,8,9]),(26,[0,1,2,8,9,85]),(27,[0,1,2,8,9,10]),(28,[0,1,2,8,9,85,90]),(29,[0,1,2,8,9,10]),(30,[0,1,2,8,9,92]),(31,[0,1,2,8,9,10]),(32,[0,1,8,9,10,11]),(33,[0,1,8,9,10,11,12]),(34,[0,1,8,9,10,11,12,13]),(35,[1,8,9,10,11,12,13,99,100,101]),(36,[1,8,9,10,11,12,13,99,100,101,102]),(37,[1,8,9,10,11,12,13,15,99,100,101]),(38,[1,8,9,10,11,12,13,15,99,100,101]),(39,[6,7]),(40,[1,8,9,10,11,12,13,15,99,100,101,106]),(41,[1,8,9,10,11,12,13,99,100,101]),(42,[1,8,9,10,11,12,13,15,99,100,101,112]),(43,[1,8,9,10,11,12,13,16,99,100,101]),(44,[1,8,9,10,11,12,13,15,99,100,101,121]),(45,[1,8,9,10,11,12,13,16,99,100,101]),(46,[1,8,9,10,11,12,13,16,99,100,101,137]),(47,[6,7]),(48,[1,8,9,10,11,12,13,16,99,100,101,141]),(49,[6,7]),(50,[1,8,9,10,11,12,13,16,99,100,101]),(51,[1,8,9,10,11,12,13,17,99,100,101]),(52,[1,8,9,10,11,12,17,99,100,101,159]),(53,[6,7]),(54,[1,8,9,10,11,12,13,99,100,101]),(55,[1,8,9,10,11,12,13,99,100,101]),(56,[13,169]),(57,[6,7]),(58,[6,7]),(1000003,[1,8,9,10,11,12,13,99,100,101])],[]⟩
def F166:DF:=pF N166 Tryz.f166
theorem F166_ok:prepF Tryz.prog N166 Tryz.f166=some F166:=by kernel_rfl
theorem F166_fn:FnOK2 Tryz.prog 166 (.pl F166):=.pl Tryz.func166 (by kernel_rfl) F166_ok
abbrev N167:Note:=⟨[],[(0,[0]),(1,[0,6]),(2,[2]),(3,[0,3]),(4,[3]),(5,[2])],[]⟩
def F167:DF:=pF N167 Tryz.f167
theorem F167_ok:prepF Tryz.prog N167 Tryz.f167=some F167:=by kernel_rfl
theorem F167_fn:FnOK2 Tryz.prog 167 (.pl F167):=.pl Tryz.func167 (by kernel_rfl) F167_ok
abbrev N168:Note:=⟨[],[(0,[0]),(1,[2])],[]⟩
def F168:DF:=pF N168 Tryz.f168
theorem F168_ok:prepF Tryz.prog N168 Tryz.f168=some F168:=by kernel_rfl
theorem F168_fn:FnOK2 Tryz.prog 168 (.pl F168):=.pl Tryz.func168 (by kernel_rfl) F168_ok
abbrev N169:Note:=⟨[],[(0,[0,1]),(1,[4])],[]⟩
def F169:DF:=pF N169 Tryz.f169
theorem F169_ok:prepF Tryz.prog N169 Tryz.f169=some F169:=by kernel_rfl
theorem F169_fn:FnOK2 Tryz.prog 169 (.pl F169):=.pl Tryz.func169 (by kernel_rfl) F169_ok
abbrev N170:Note:=⟨[],[(0,[0]),(1,[0,3]),(2,[2]),(3,[10]),(4,[2]),(5,[2])],[]⟩
def F170:DF:=pF N170 Tryz.f170
theorem F170_ok:prepF Tryz.prog N170 Tryz.f170=some F170:=by kernel_rfl
theorem F170_fn:FnOK2 Tryz.prog 170 (.pl F170):=.pl Tryz.func170 (by kernel_rfl) F170_ok
abbrev N171:Note:=⟨[],[(0,[0]),(1,[2])],[]⟩
def F171:DF:=pF N171 Tryz.f171
theorem F171_ok:prepF Tryz.prog N171 Tryz.f171=some F171:=by kernel_rfl
theorem F171_fn:FnOK2 Tryz.prog 171 (.pl F171):=.pl Tryz.func171 (by kernel_rfl) F171_ok
abbrev N172:Note:=⟨[],[(0,[0,2]),(1,[0,2,4]),(2,[0]),(3,[0,2]),(4,[0,2,8]),(5,[0,2]),(6,[0,2]),(7,[0,2,14]),(8,[0,2]),(9,[0,2]),(10,[2])],[]⟩
def F172:DF:=pF N172 Tryz.f172
theorem F172_ok:prepF Tryz.prog N172 Tryz.f172=some F172:=by kernel_rfl
theorem F172_fn:FnOK2 Tryz.prog 172 (.pl F172):=.pl Tryz.func172 (by kernel_rfl) F172_ok
abbrev N173:Note:=⟨[],[(0,[0]),(1,[3]),(2,[2]),(3,[2])],[]⟩
def F173:DF:=pF N173 Tryz.f173
theorem F173_ok:prepF Tryz.prog N173 Tryz.f173=some F173:=by kernel_rfl
theorem F173_fn:FnOK2 Tryz.prog 173 (.pl F173):=.pl Tryz.func173 (by kernel_rfl) F173_ok
abbrev N174:Note:=⟨[],[(0,[0]),(1,[2])],[]⟩
def F174:DF:=pF N174 Tryz.f174
theorem F174_ok:prepF Tryz.prog N174 Tryz.f174=some F174:=by kernel_rfl
theorem F174_fn:FnOK2 Tryz.prog 174 (.pl F174):=.pl Tryz.func174 (by kernel_rfl) F174_ok
abbrev N175:Note:=⟨[],[(0,[0]),(1,[2]),(2,[2])],[]⟩
def F175:DF:=pF N175 Tryz.f175
theorem F175_ok:prepF Tryz.prog N175 Tryz.f175=some F175:=by kernel_rfl
theorem F175_fn:FnOK2 Tryz.prog 175 (.pl F175):=.pl Tryz.func175 (by kernel_rfl) F175_ok
abbrev N176:Note:=⟨[],[(0,[0]),(1,[2])],[]⟩
def F176:DF:=pF N176 Tryz.f176
theorem F176_ok:prepF Tryz.prog N176 Tryz.f176=some F176:=by kernel_rfl
theorem F176_fn:FnOK2 Tryz.prog 176 (.pl F176):=.pl Tryz.func176 (by kernel_rfl) F176_ok
abbrev N177:Note:=⟨[],[(0,[0]),(1,[0,3]),(2,[0,3,4]),(3,[0,3,4,18]),(4,[0,3,4]),(5,[0,3,4,5]),(6,[0,3,4,5,46]),(7,[0,4]),(8,[0,3,4]),(9,[0,3,4,5]),(10,[0,3,4,5,54]),(11,[0,3,4,5]),(12,[0,3,4,5,83]),(13,[0,3,4,5]),(14,[0,3,4,5,87]),(15,[0,4,5,89]),(16,[2]),(17,[0,3,4,5]),(18,[0,4,5,91]),(19,[2]),(20,[0,3,4,5]),(21,[2]),(1000000,[0,3,4,5])],[]⟩
def F177:DF:=pF N177 Tryz.f177
theorem F177_ok:prepF Tryz.prog N177 Tryz.f177=some F177:=by kernel_rfl
theorem F177_fn:FnOK2 Tryz.prog 177 (.pl F177):=.pl Tryz.func177 (by kernel_rfl) F177_ok
abbrev N178:Note:=⟨[],[(0,[0]),(1,[0,4]),(2,[2]),(3,[2])],[]⟩
def F178:DF:=pF N178 Tryz.f178
theorem F178_ok:prepF Tryz.prog N178 Tryz.f178=some F178:=by kernel_rfl
theorem F178_fn:FnOK2 Tryz.prog 178 (.pl F178):=.pl Tryz.func178 (by kernel_rfl) F178_ok
abbrev N179:Note:=⟨[],[(0,[0]),(1,[0,4]),(2,[2]),(3,[2])],[]⟩
def F179:DF:=pF N179 Tryz.f179
theorem F179_ok:prepF Tryz.prog N179 Tryz.f179=some F179:=by kernel_rfl
theorem F179_fn:FnOK2 Tryz.prog 179 (.pl F179):=.pl Tryz.func179 (by kernel_rfl) F179_ok
noncomputable def tab : List (Nat × DX) := [(3,.pl F3),(7,.pl F7),(8,.pl F8),(9,.pl F9),(10,.pl F10),(11,.pl F11),(12,.pl F12),(13,.pl F13),(14,.pl F14),(15,.pl F15),(16,.pl F16),(24,.pl F24),(28,.pl F28),(29,.pl F29),(30,.pl F30),(31,.pl F31),(32,.pl F32),(33,.pl F33),(34,.pl F34),(35,.pl F35),(36,.pl F36),(37,.pl F37),(38,.pl F38),(39,.pl F39),(40,.pl F40),(41,.pl F41),(42,.pl F42),(43,.pl F43),(49,.pl F49),(52,.pl F52),(53,.pl F53),(54,.pl F54),(55,.pl F55),(56,.pl F56),(57,.pl F57),(58,.pl F58),(59,.pl F59),(60,.pl F60),(61,.pl F61),(62,.pl F62),(63,.pl F63),(66,.pl F66),(67,.pl F67),(68,.pl F68),(69,.pl F69),(70,.pl F70),(71,.pl F71),(72,.pl F72),(73,.pl F73),(74,.pl F74),(75,.pl F75),(76,.pl F76),(77,.pl F77),(78,.pl F78),(80,.pl F80),(84,.pl F84),(85,.pl F85),(86,.pl F86),(87,.pl F87),(88,.pl F88),(89,.pl F89),(90,.pl F90),(91,.pl F91),(92,.pl F92),(96,.pl F96),(97,.pl F97),(98,.pl F98),(99,.pl F99),(100,.pl F100),(101,.pl F101),(102,.pl F102),(103,.pl F103),(104,.pl F104),(105,.pl F105),(106,.pl F106),(107,.pl F107),(108,.pl F108),(109,.pl F109),(111,.pl F111),(112,.pl F112),(119,.pl F119),(120,.pl F120),(121,.pl F121),(122,.pl F122),(123,.pl F123),(124,.pl F124),(125,.pl F125),(126,.pl F126),(127,.pl F127),(128,.pl F128),(129,.pl F129),(130,.pl F130),(131,.pl F131),(132,.pl F132),(133,.pl F133),(137,.pl F137),(138,.pl F138),(139,.pl F139),(140,.pl F140),(141,.pl F141),(142,.pl F142),(143,.pl F143),(144,.pl F144),(145,.pl F145),(146,.pl F146),(148,.pl F148),(149,.pl F149),(150,.pl F150),(152,.pl F152),(153,.pl F153),(154,.pl F154),(155,.pl F155),(156,.pl F156),(157,.pl F157),(158,.pl F158),(159,.pl F159),(160,.pl F160),(161,.pl F161),(162,.pl F162),(163,.pl F163),(165,.pl F165),(166,.pl F166),(167,.pl F167),(168,.pl F168),(169,.pl F169),(170,.pl F170),(171,.pl F171),(172,.pl F172),(173,.pl F173),(174,.pl F174),(175,.pl F175),(176,.pl F176),(177,.pl F177),(178,.pl F178),(179,.pl F179)]
theorem tabOK : TabOK2 Tryz.prog tab :=
 .cons F3_fn <|
 .cons F7_fn <|
 .cons F8_fn <|
 .cons F9_fn <|
 .cons F10_fn <|
 .cons F11_fn <|
 .cons F12_fn <|
 .cons F13_fn <|
 .cons F14_fn <|
 .cons F15_fn <|
 .cons F16_fn <|
 .cons F24_fn <|
 .cons F28_fn <|
 .cons F29_fn <|
 .cons F30_fn <|
 .cons F31_fn <|
 .cons F32_fn <|
 .cons F33_fn <|
 .cons F34_fn <|
 .cons F35_fn <|
 .cons F36_fn <|
 .cons F37_fn <|
 .cons F38_fn <|
 .cons F39_fn <|
 .cons F40_fn <|
 .cons F41_fn <|
 .cons F42_fn <|
 .cons F43_fn <|
 .cons F49_fn <|
 .cons F52_fn <|
 .cons F53_fn <|
 .cons F54_fn <|
 .cons F55_fn <|
 .cons F56_fn <|
 .cons F57_fn <|
 .cons F58_fn <|
 .cons F59_fn <|
 .cons F60_fn <|
 .cons F61_fn <|
 .cons F62_fn <|
 .cons F63_fn <|
 .cons F66_fn <|
 .cons F67_fn <|
 .cons F68_fn <|
 .cons F69_fn <|
 .cons F70_fn <|
 .cons F71_fn <|
 .cons F72_fn <|
 .cons F73_fn <|
 .cons F74_fn <|
 .cons F75_fn <|
 .cons F76_fn <|
 .cons F77_fn <|
 .cons F78_fn <|
 .cons F80_fn <|
 .cons F84_fn <|
 .cons F85_fn <|
 .cons F86_fn <|
 .cons F87_fn <|
 .cons F88_fn <|
 .cons F89_fn <|
 .cons F90_fn <|
 .cons F91_fn <|
 .cons F92_fn <|
 .cons F96_fn <|
 .cons F97_fn <|
 .cons F98_fn <|
 .cons F99_fn <|
 .cons F100_fn <|
 .cons F101_fn <|
 .cons F102_fn <|
 .cons F103_fn <|
 .cons F104_fn <|
 .cons F105_fn <|
 .cons F106_fn <|
 .cons F107_fn <|
 .cons F108_fn <|
 .cons F109_fn <|
 .cons F111_fn <|
 .cons F112_fn <|
 .cons F119_fn <|
 .cons F120_fn <|
 .cons F121_fn <|
 .cons F122_fn <|
 .cons F123_fn <|
 .cons F124_fn <|
 .cons F125_fn <|
 .cons F126_fn <|
 .cons F127_fn <|
 .cons F128_fn <|
 .cons F129_fn <|
 .cons F130_fn <|
 .cons F131_fn <|
 .cons F132_fn <|
 .cons F133_fn <|
 .cons F137_fn <|
 .cons F138_fn <|
 .cons F139_fn <|
 .cons F140_fn <|
 .cons F141_fn <|
 .cons F142_fn <|
 .cons F143_fn <|
 .cons F144_fn <|
 .cons F145_fn <|
 .cons F146_fn <|
 .cons F148_fn <|
 .cons F149_fn <|
 .cons F150_fn <|
 .cons F152_fn <|
 .cons F153_fn <|
 .cons F154_fn <|
 .cons F155_fn <|
 .cons F156_fn <|
 .cons F157_fn <|
 .cons F158_fn <|
 .cons F159_fn <|
 .cons F160_fn <|
 .cons F161_fn <|
 .cons F162_fn <|
 .cons F163_fn <|
 .cons F165_fn <|
 .cons F166_fn <|
 .cons F167_fn <|
 .cons F168_fn <|
 .cons F169_fn <|
 .cons F170_fn <|
 .cons F171_fn <|
 .cons F172_fn <|
 .cons F173_fn <|
 .cons F174_fn <|
 .cons F175_fn <|
 .cons F176_fn <|
 .cons F177_fn <|
 .cons F178_fn <|
 .cons F179_fn <|
  .nil
end
end Go.Proofs.C1

namespace Go.Proofs.YthjebaophnkpbaaGreatDoor
open Go.ChangeShapes Go.WideShapes Go.ChangeAt Go.RowKit
abbrev laid:List (String×DataW Unit):=Rows.cstTellsUptoRow.laid
theorem own:ownKnob Tryz.prog.godebug=none:=by kernel_rfl
abbrev pows:List Int:=[1,10,100,1000,10000,100000,1000000,10000000,100000000,1000000000,10000000000,100000000000,1000000000000,10000000000000,100000000000000,1000000000000000,10000000000000000,100000000000000000,1000000000000000000,10000000000000000000]
abbrev powsA:List Dn.AV:=[.int .u64 1,.int .u64 10,.int .u64 100,.int .u64 1000,.int .u64 10000,.int .u64 100000,.int .u64 1000000,.int .u64 10000000,.int .u64 100000000,.int .u64 1000000000,.int .u64 10000000000,.int .u64 100000000000,.int .u64 1000000000000,.int .u64 10000000000000,.int .u64 100000000000000,.int .u64 1000000000000000,.int .u64 10000000000000000,.int .u64 100000000000000000,.int .u64 1000000000000000000,.int .u64 10000000000000000000]
theorem powsA_eq:powsA=pows.map (Dn.AV.int .u64):=rfl
abbrev gtT:Dn.GT:=[(5,powsA)]
theorem globPow : Tryz.prog.globalNamed "internal/strconv.uint64pow10" = some 5 := by kernel_rfl
theorem typePow:(Tryz.prog.globals[5]?).map (·.type)=some 183:=by kernel_rfl
theorem undPow:Tryz.prog.underlying 183=some (.array 20 155):=by kernel_rfl
theorem undU64:Tryz.prog.underlying 155=some (.int .u64):=by kernel_rfl
theorem pow_of_laid {W : World} (h : laidMetH Tryz.prog laid W) : Lib.TabIs Tryz.prog W "internal/strconv.uint64pow10" .u64 pows := by
 rw [MakeChecks.laidMetH_plain _ _ _ (by kernel_rfl)] at h
 exact Lib.tabIs_of_head globPow typePow undPow undU64 (by kernel_rfl) (by kernel_rfl) (laidMet.tail (laidMet.tail h))
theorem inv_of_laid {W:World} (h:laidMetH Tryz.prog laid W):Dn.Inv Tryz.prog gtT Dn.St.init (Dn.G0 W) W:=by
 refine Dn.inv0g fun g cs hg=>?_
 rw [Dn.lk_cons] at hg
 by_cases e:5=g
 ·rw [if_pos e] at hg
  subst e
  cases hg
  have hv:=pow_of_laid h
  simp only [Lib.TabIs,World.var?,globPow,Option.bind_some] at hv
  split at hv
  ·rename_i c ty fr hw
   cases hv
   refine⟨_,ty,fr,hw,?_⟩
   rw [powsA_eq]
   generalize pows=l
   induction l with
   | nil=>exact Dn.Rl.nil
   | cons a r ih=>exact Dn.Rl.cons (by simp only [Dn.Rv]) ih
  ·cases hv
 ·rw [if_neg e] at hg
  cases hg
noncomputable abbrev laidW (os:Os):World:=World.laidAll Tryz.prog os laid
theorem laidW_os (os:Os):(laidW os).os=os:=World.laidAll_os _ _ _
theorem laidW_met (os:Os) (args:Array Value):laidMetH Tryz.prog laid ((laidW os).forCall (fun _ _=>0) ⟨#[],args,[]⟩).memory:=by
 rw [MakeChecks.laidMetH_plain _ _ _ (by kernel_rfl)];exact laidMet_laidAll _ (by kernel_rfl) (by kernel_rfl)
set_option maxRecDepth 1000000 in
theorem ran:Dn.exec2 gtT (fun f=>Dn.lk [] f) (fun f=>Dn.lk C1.tab f) 100000 200 3 [] Dn.St.init Dn.retTrue=true:=by kernel_rfl
end Go.Proofs.YthjebaophnkpbaaGreatDoor

namespace Go.Proofs.YthjebaophnkpbaaGreatDoor
open Go.Dn Go.RowKit
theorem rv_str {S:St} {G:Gh} {w:World} {s:List UInt8}:Rv S G w (.str s) (.string ⟨s.toArray⟩):=by simp only [Rv]
theorem hbTL:HasBody Tryz.prog 98:=⟨_,Tryz.func98,by kernel_rfl,by kernel_rfl⟩
theorem hbTR:HasBody Tryz.prog 99:=⟨_,Tryz.func99,by kernel_rfl,by kernel_rfl⟩
theorem hbTT:HasBody Tryz.prog 105:=⟨_,Tryz.func105,by kernel_rfl,by kernel_rfl⟩
theorem hbAI:HasBody Tryz.prog 121:=⟨_,Tryz.func121,by kernel_rfl,by kernel_rfl⟩
theorem hbIA:HasBody Tryz.prog 101:=⟨_,Tryz.func101,by kernel_rfl,by kernel_rfl⟩
theorem sh_trimL {cs:List UInt8} (hc:cs.length<4294967281) (ha:∀b∈cs,b.toNat<128) (s:List UInt8):PF (AC Tryz.prog gtT) 98 [.str s,.str cs] (.str (trimL cs s)) :=
 PF.of_calls hbTL (fun S G w vs h=>rl_str2 h) (fun S G w=>rv_str) fun w =>
  Any.strings_TrimLeft_laid Tryz.lays161 (by kernel_rfl) ⟨s.toArray⟩ ⟨cs.toArray⟩ w hc fun j b h=>ha b (List.mem_of_getElem? h)
theorem sh_trimR {cs:List UInt8} (hc:cs.length<4294967281) (ha:∀b∈cs,b.toNat<128) (s:List UInt8) (hs:s.length<9223372036854775807):PF (AC Tryz.prog gtT) 99 [.str s,.str cs] (.str (trimR cs s)) :=
 PF.of_calls hbTR (fun S G w vs h=>rl_str2 h) (fun S G w=>rv_str) fun w =>
  Any.strings_TrimRight_laid Tryz.lays162 (by kernel_rfl) ⟨s.toArray⟩ ⟨cs.toArray⟩ w (Nat.le_of_lt hs) hc fun j b h=>ha b (List.mem_of_getElem? h)
theorem sh_trim {cs:List UInt8} (hc:cs.length<4294967281) (ha:∀b∈cs,b.toNat<128) (s:List UInt8) (hs:s.length<9223372036854775807):PF (AC Tryz.prog gtT) 105 [.str s,.str cs] (.str (trimA cs s)) :=
 PF.of_calls hbTT (fun S G w vs h=>rl_str2 h) (fun S G w=>rv_str) fun w =>
  Any.strings_Trim_laid Tryz.lays160 (by kernel_rfl) ⟨s.toArray⟩ ⟨cs.toArray⟩ w (Nat.le_of_lt hs) hc fun j b h=>ha b (List.mem_of_getElem? h)
theorem decFrom_val (l:List UInt8):∀(a:Nat),l.all dig=true→Lib.decFrom a l=some (valB a l):=by
 induction l with
 | nil=>intro a _;rfl
 | cons b r ih =>
  intro a h
  rw [List.all_cons,bA] at h
  have hb:=h.1
  simp only [dig,bA,decide_eq_true_eq] at hb
  have hd:Lib.digitVal b=some (b.toNat-48):=if_pos hb
  unfold Lib.decFrom
  rw [hd]
  exact ih _ h.2
theorem atoi_val (l:List UInt8) (h:l.all dig=true) (h1:1≤l.length):Lib.atoi l=some (valB 0 l:Int):=by
 cases l with
 | nil=>simp at h1
 | cons b r =>
  have hb:=h
  simp only [List.all_cons,bA,dig,decide_eq_true_eq] at hb
  have n1:(b == 45)=false:=by
   cases hh:(b == 45) with
   | false=>rfl
   | true=>rw [beq_iff_eq] at hh;subst hh;exact absurd hb.1.1 (by decide)
  have n2:(b == 43)=false:=by
   cases hh:(b == 43) with
   | false=>rfl
   | true=>rw [beq_iff_eq] at hh;subst hh;exact absurd hb.1.1 (by decide)
  simp only [Lib.atoi,n1,n2,Bool.false_eq_true,if_false,Lib.decNat,List.isEmpty_cons]
  rw [decFrom_val _ 0 h];rfl
theorem sh_atoi (s:List UInt8) (h:s.all dig=true) (h1:1≤s.length) (h2:s.length≤18):PF (AC Tryz.prog gtT) 121 [.str s] (.tup [.int .i64 (valB 0 s),.nilif]) :=
 PF.of_calls hbAI (fun S G w vs h=>rl_str1 h) (v:=.tuple #[.int .i64 (valB 0 s),.nilIface]) (fun S G w=>by
   simp only [Rv]
   exact⟨_,rfl,Rl.cons (by simp only [Rv]) (Rl.cons (by simp only [Rv]) Rl.nil)⟩) fun w =>
  (Any.strconv_Atoi Tryz.lays172 ⟨s.toArray⟩ (valB 0 s) h2 (atoi_val s h h1) w).mono fun e w' ⟨h1,t,h2⟩=>⟨h1,by rw [h2];exact Joins.below_bytesWorld _ _ _ _ (Nat.le_refl _)⟩
theorem decB_dec:∀n:Nat,Lib.decDigits n=decB n:=fun n=>by
 induction n using Nat.strongRecOn with
 | _ n ih =>
  unfold Lib.decDigits decB
  split
  ·rfl
  ·rw [ih (n / 10) (by omega)]
theorem itoa_eq (n:Int):Lib.itoa n=itoaB n:=by unfold Lib.itoa itoaB;rw [decB_dec,decB_dec]
theorem pows_tab:Lib.pow10Tab=pows:=by decide
theorem tab_of_inv {S : St} {G : Gh} {w : World} (hI : Inv Tryz.prog gtT S G w) : Lib.TabIs Tryz.prog w "internal/strconv.uint64pow10" .u64 Lib.pow10Tab := by
 rw [pows_tab]
 obtain⟨_,c,ty,fr,h1,h2⟩:=hI.glob 5 powsA rfl
 have:c=(pows.map fun z=>Value.int .u64 z).toArray:=by
  rw [powsA_eq] at h2
  obtain⟨c⟩:=c
  simp only at h2
  congr 1
  clear h1
  revert h2
  generalize pows=l
  induction l generalizing c with
  | nil=>intro h2;simpa only [List.map_nil,Rl] using h2
  | cons a r ih =>
   intro h2
   simp only [List.map_cons,Rl,Rv] at h2
   obtain⟨v,q,rfl,rfl,h3⟩:=h2
   rw [List.map_cons,ih q h3]
 rw [this] at h1
 simp only [Lib.TabIs,World.var?,globPow,Option.bind_some,h1]
theorem rl_int1 {S:St} {G:Gh} {w:World} {k:IntKind} {n:Int} {vs:List Value} (h:Rl S G w [.int k n] vs):vs=[.int k n]:=by
 simp only [Rl,Rv] at h
 obtain⟨v,r,rfl,rfl,rfl⟩:=h
 rfl
theorem sh_itoa (n:Int) (h1:-999999≤n) (h2:n≤999999):PF (AC Tryz.prog gtT) 101 [.int .i64 n] (.str (itoaB n)) :=
 PF.of_callsI hbIA (fun S G w vs h=>rl_int1 h) (v:=.string ⟨(Lib.itoa n).toArray⟩) (fun S G w=>by rw [itoa_eq];exact rv_str) fun S G w hI =>
  (Any.strconv_Itoa Tryz.lays171M n (by omega) (by omega) w (tab_of_inv hI)).mono fun e w' ⟨h1,k,os,h2⟩=>⟨h1,by rw [h2];exact Lib.below_grow _ _ (Nat.le_refl _) _ _⟩
end Go.Proofs.YthjebaophnkpbaaGreatDoor

namespace Go.Proofs.YthjebaophnkpbaaGreatDoor.Fn
open Go.ChangeShapes Go.WideShapes Go.ChangeAt Go.RowKit Go.Dn
abbrev A:CallT:=AC Tryz.prog gtT
theorem hm:MonoC A:=AC_mono
theorem gtSta:GtSta gtT:=fun g cs h=>by
 rw [lk_cons] at h
 by_cases e:5=g
 ·rw [if_pos e] at h
  cases h
  rw [powsA_eq]
  generalize pows=l
  induction l with
  | nil=>exact trivial
  | cons a r ih=>exact⟨trivial,ih⟩
 ·rw [if_neg e] at h
  cases h
theorem pf {f : FuncId} {fn : Func} {n : Note} {F : DF} {us : List AV} {u : AV} (hf : Tryz.prog.funcs[f]? = some fn) (hn : (fn.name == "runtime.NumGoroutine") = false) (hp : prepF Tryz.prog n fn = some F) (hs : Stas us) (hw : wpF gtT A F us St.init (Ret u)) : PF A f us u :=
 PF.of_init gtSta hs (AC_intro Tryz.checked.mixed hf hn hp hw)
theorem s1 {a:AV} (h:Sta a):Stas [a]:=⟨h,trivial⟩
theorem s2 {a b:AV} (h:Sta a) (k:Sta b):Stas [a,b]:=⟨h,k,trivial⟩
theorem s3 {a b c:AV} (h:Sta a) (k:Sta b) (l:Sta c):Stas [a,b,c]:=⟨h,k,l,trivial⟩
theorem sK (l:List (List UInt8)):Sta (.sl 1 stat (strs l)):=sta_sl (sta_strs l)
theorem sP (s:PS):Sta (encS s):=⟨trivial,trivial,trivial⟩
theorem indT {Q:PT→Prop} (h:∀t,(∀u,u.n<t.n→Q u)→Q t) (t:PT):Q t:=(measure PT.n).wf.induction t h
theorem size3:∀(t:PT) (m:Int),m<4611686018427387904→PF A 43 [encT t,.int .i64 m] (.int .i64 (Dn.size3 t m)) :=
 indT fun t ih m h=>pf Tryz.func43 (by kernel_rfl) C1.F43_ok (s2 (sta_T t) trivial) (size3_wp hm (fun u hu m h=>ih u hu m h) h)
theorem copyT:∀t:PT,t.ok→PF A 49 [encT t] (encT t) :=
 indT fun t ih h=>pf Tryz.func49 (by kernel_rfl) C1.F49_ok (s1 (sta_T t)) (copy_wp hm ih h)
theorem index (keys:List (List UInt8)) (key:List UInt8) (h:keys.length<4611686018427387904):PF A 69 [.sl 1 stat (strs keys),.str key] (.int .i64 (plc key keys 0)) :=
 pf Tryz.func69 (by kernel_rfl) C1.F69_ok (s2 (sK keys) trivial) (index_wp hm h)
theorem part (t:PT) (s:PS) (h:t.ok):PF A 55 [encT t,encS s] (.int .i64 (atT t s)) :=
 pf Tryz.func55 (by kernel_rfl) C1.F55_ok (s2 (sta_T t) (sP s)) (part_wp hm index h)
theorem hpre0 (s:List UInt8) (c:UInt8):PF A 137 [.str s,.str [c]] (.bool (hd c s)) :=
 pf Tryz.func137 (by kernel_rfl) C1.F137_ok (s2 trivial trivial) hasPre0_wp
theorem hpre (s:List UInt8) (c:UInt8):PF A 119 [.str s,.str [c]] (.bool (hd c s)) :=
 pf Tryz.func119 (by kernel_rfl) C1.F119_ok (s2 trivial trivial) (hasPre_wp hm hpre0)
theorem tpre0 (s:List UInt8) (c:UInt8):PF A 138 [.str s,.str [c]] (.str (if hd c s then s.drop 1 else s)) :=
 pf Tryz.func138 (by kernel_rfl) C1.F138_ok (s2 trivial trivial) (trimPre0_wp hm hpre0)
theorem tpre (s:List UInt8) (c:UInt8):PF A 120 [.str s,.str [c]] (.str (if hd c s then s.drop 1 else s)) :=
 pf Tryz.func120 (by kernel_rfl) C1.F120_ok (s2 trivial trivial) (trimPre_wp hm tpre0)
theorem digit (b:UInt8):PF A 129 [.int .u8 b.toNat] (.bool (dig b)) :=
 pf Tryz.func129 (by kernel_rfl) C1.F129_ok (s1 trivial) digit_wp
theorem run (s:List UInt8) (h:s.length<9223372036854775807):PF A 100 [.str s] (.int .i64 (runB s)) :=
 pf Tryz.func100 (by kernel_rfl) C1.F100_ok (s1 trivial) (run_wp hm digit h)
theorem cut (s:List UInt8) (h:s.length<9223372036854775807):PF A 96 [.str s] (encCut (cutB s)) :=
 pf Tryz.func96 (by kernel_rfl) C1.F96_ok (s1 trivial) (cut_wp hm hpre tpre run h)
theorem ascii {cs:List UInt8} (h:cs.all (fun b=>decide (b.toNat<128))=true):∀b∈cs,b.toNat<128:=fun b hb=>of_decide_eq_true (List.all_eq_true.1 h b hb)
theorem tl48 (s:List UInt8):PF A 98 [.str s,.str [48]] (.str (trimL [48] s)):=sh_trimL (by decide) (ascii (by decide)) s
theorem tr48 (s:List UInt8) (h:s.length<9223372036854775807):PF A 99 [.str s,.str [48]] (.str (trimR [48] s)):=sh_trimR (by decide) (ascii (by decide)) s h
theorem exponent (e:List UInt8) (h:(expT e).all dig=true):PF A 97 [.str e] (encExp (expB e)) :=
 pf Tryz.func97 (by kernel_rfl) C1.F97_ok (s1 trivial) (exponent_wp hm hpre (fun s=>sh_trimL (by decide) (ascii (by decide)) s) tl48 sh_atoi h)
theorem split (s:List UInt8) (h:s.length<9223372036854775807):PF A 84 [.str s] (encSplit (splitB s)) :=
 pf Tryz.func84 (by kernel_rfl) C1.F84_ok (s1 trivial) (split_wp hm cut exponent tl48 tr48 h)
theorem join (p:Parts3) (h:p.2.1.length≤1000):PF A 85 [encP p] (encJoin (joinB p)) :=
 pf Tryz.func85 (by kernel_rfl) C1.F85_ok (s1 ⟨trivial,trivial,trivial,trivial⟩) (join_wp hm run sh_itoa h)
theorem normal (s:List UInt8) (h:s.length<4294967281):PF A 66 [.str s] (encJoin (normB s)) :=
 pf Tryz.func66 (by kernel_rfl) C1.F66_ok (s1 trivial) (normal_wp hm split join (by omega))
theorem two (s:List UInt8):PF A 102 [.str s] (.int .i64 (twoB s)) :=
 pf Tryz.func102 (by kernel_rfl) C1.F102_ok (s1 trivial) two_wp
theorem within (s:List UInt8) (lo hi:Int):PF A 103 [.str s,.int .i64 lo,.int .i64 hi] (.bool (withinB s lo hi)) :=
 pf Tryz.func103 (by kernel_rfl) C1.F103_ok (s3 trivial trivial trivial) (within_wp hm two)
theorem days (y m:Int):PF A 104 [.int .i64 y,.int .i64 m] (.int .i64 (daysB y m)) :=
 pf Tryz.func104 (by kernel_rfl) C1.F104_ok (s2 trivial trivial) days_wp
theorem date (s:List UInt8):PF A 86 [.str s] (.bool (dateB s)) :=
 pf Tryz.func86 (by kernel_rfl) C1.F86_ok (s1 trivial) (date_wp hm two within days)
theorem clock (s:List UInt8) (h:s.length<9223372036854775807):PF A 87 [.str s] (.bool (clockB s)) :=
 pf Tryz.func87 (by kernel_rfl) C1.F87_ok (s1 trivial) (clock_wp hm within (fun s h=>sh_trim (by decide) (ascii (by decide)) s h) h)
theorem hsuf0 (s:List UInt8) (c:UInt8) (h:s.length<9223372036854775807):PF A 131 [.str s,.str [c]] (.bool (tl c s)) :=
 pf Tryz.func131 (by kernel_rfl) C1.F131_ok (s2 trivial trivial) (hasSuf0_wp h)
theorem hsuf (s:List UInt8) (c:UInt8) (h:s.length<9223372036854775807):PF A 106 [.str s,.str [c]] (.bool (tl c s)) :=
 pf Tryz.func106 (by kernel_rfl) C1.F106_ok (s2 trivial trivial) (hasSuf_wp hm hsuf0 h)
theorem zone (s:List UInt8) (h:s.length<9223372036854775807):PF A 88 [.str s] (encZ (zoneB s)) :=
 pf Tryz.func88 (by kernel_rfl) C1.F88_ok (s1 trivial) (zone_wp hm hsuf within h)
theorem idxByte (s:List UInt8) (c:UInt8):PF A 146 [.str s,.int .u8 c.toNat] (.int .i64 (idxB c s 0)) :=
 pf Tryz.func146 (by kernel_rfl) C1.F146_ok (s2 trivial trivial) idxByte_wp
theorem idx1 (s:List UInt8):PF A 132 [.str s,.str [84]] (.int .i64 (idxB 84 s 0)) :=
 pf Tryz.func132 (by kernel_rfl) C1.F132_ok (s2 trivial trivial) (idx1_wp hm idxByte)
theorem cutL (s:List UInt8) (h:s.length<4294967281):PF A 107 [.str s,.str [84]] (.tup [.str (cutC 84 s).1,.str (cutC 84 s).2.1,.bool (cutC 84 s).2.2]) :=
 pf Tryz.func107 (by kernel_rfl) C1.F107_ok (s2 trivial trivial) (cutL_wp hm idx1 (by omega))
theorem cutS (s:List UInt8) (h:s.length<4294967281):PF A 89 [.str s,.str [84]] (.tup [.str (cutC 84 s).1,.str (cutC 84 s).2.1,.bool (cutC 84 s).2.2]) :=
 pf Tryz.func89 (by kernel_rfl) C1.F89_ok (s2 trivial trivial) (cutS_wp hm (cutL s h))
theorem time (s:List UInt8) (h:s.length<4294967281):PF A 67 [.str s] (.bool (timeB s)) :=
 pf Tryz.func67 (by kernel_rfl) C1.F67_ok (s1 trivial) (time_wp hm date clock zone cutS h)
theorem rowU (b:UInt8):PF A 111 [.int .u8 b.toNat] (encLead (leadB b.toNat)) :=
 pf Tryz.func111 (by kernel_rfl) C1.F111_ok (s1 trivial) (row_wp hm b)
theorem charU (c:Int):PF A 112 [.int .i64 c] (.bool (charB c)) :=
 pf Tryz.func112 (by kernel_rfl) C1.F112_ok (s1 trivial) charB_wp
theorem firstU (s:List UInt8) (h:s.length<4611686018427387904):PF A 92 [.str s] (encFirst (firstC s)) :=
 pf Tryz.func92 (by kernel_rfl) C1.F92_ok (s1 trivial) (first_wp hm rowU charU h)
theorem badU (s:List UInt8) (h:s.length<4611686018427387904):PF A 80 [.str s] (.int .i64 (badI s 0)) :=
 pf Tryz.func80 (by kernel_rfl) C1.F80_ok (s1 trivial) (bad_wp hm firstU h)
theorem validU (s:List UInt8) (h:s.length<4611686018427387904):PF A 63 [.str s] (.bool (validB s)) :=
 pf Tryz.func63 (by kernel_rfl) C1.F63_ok (s1 trivial) (validP_wp hm badU h)
theorem unlike (keys:List (List UInt8)) (hk:∀s∈keys,s.length<4294967281) (hl:keys.length<9223372036854775807):PF A 68 [.sl 1 stat (strs keys)] (.bool (unlikeB [] keys)) :=
 pf Tryz.func68 (by kernel_rfl) C1.F68_ok (s1 (sK keys)) (unlike_wp hm validU (fun s h=>by have:=hk s h;omega) hl)
theorem formed:∀t:PT,t.sok→PF A 54 [encT t] (.bool (formedB t)) :=
 indT fun t ih h=>pf Tryz.func54 (by kernel_rfl) C1.F54_ok (s1 (sta_T t)) (formed_wp hm normal (fun s h=>validU s (by omega)) time unlike ih h)
theorem sizeP:∀t:PT,t.n<4611686018427387904→PF A 53 [encT t] (.int .i64 t.n) :=
 indT fun t ih h=>pf Tryz.func53 (by kernel_rfl) C1.F53_ok (s1 (sta_T t)) (size_wp hm (fun u hu=>ih u hu (by omega)) h)
theorem depthP:∀t:PT,t.n<4611686018427387904→PF A 52 [encT t] (.int .i64 t.dp) :=
 indT fun t ih h=>pf Tryz.func52 (by kernel_rfl) C1.F52_ok (s1 (sta_T t)) (depth_wp hm (fun u hu=>ih u hu (by omega)) h)
theorem right (t:PT) (h:t.n<4611686018427387904) (hk:t.sok):PF A 28 [encT t] (.int .i64 (rightB t)) :=
 pf Tryz.func28 (by kernel_rfl) C1.F28_ok (s1 (sta_T t)) (right_wp hm depthP sizeP formed h hk)
theorem runs:PF A 3 [] (.bool true) :=
 PF.of_init gtSta trivial (AC_mono _ _ _ _ _ (exec2_sound Tryz.checked.mixed C1.tabOK .nil 200 3 [] St.init retTrue ran) fun r S1 q=>by
  cases r with
  | ret x=>cases x<;>simp only [retTrue,Bool.false_eq_true] at q;subst q;exact⟨_,rfl,by simp only [Rdo]⟩
  | pan x=>simp [retTrue] at q)
end Go.Proofs.YthjebaophnkpbaaGreatDoor.Fn

namespace Go.Dn
open Go Go.Proofs.C1
set_option maxRecDepth 100000
attribute [local irreducible] afterS keepE
section
variable {gt:GT} {C:CallT}
end

section
variable {gt:GT} {C:CallT}
end

section
variable {gt:GT} {C:CallT}
end
end Go.Dn

namespace Go.Dn
open Go
end Go.Dn

namespace Go.Dn
open Go Go.Proofs.C1
set_option maxRecDepth 100000
attribute [local irreducible] afterS keepE
section
variable {gt:GT} {C:CallT}
end

section
variable {gt:GT} {C:CallT}
end

section
variable {gt:GT} {C:CallT}
end

section
variable {gt:GT} {C:CallT}
end

def DC.lf:DC→DC |.seq a _=>a | c=>c
section
variable {gt:GT} {C:CallT}
end

section
variable {gt:GT} {C:CallT}
end

section
variable {gt:GT} {C:CallT}
end

section
variable {gt:GT} {C:CallT}
end

section
variable {gt:GT} {C:CallT}
end

section
variable {gt:GT} {C:CallT}
end

section
variable {gt:GT} {C:CallT}
end

section
variable {gt:GT} {C:CallT}
end

section
variable {gt:GT} {C:CallT}
end
end Go.Dn

namespace Go.Dn
open Go
end Go.Dn

namespace Go.Proofs.YthjebaophnkpbaaGreatDoor.Fn
open Go.ChangeShapes Go.WideShapes Go.ChangeAt Go.RowKit Go.Dn
end Go.Proofs.YthjebaophnkpbaaGreatDoor.Fn

namespace Go.Dn
section
variable {α:Type} (le:α→α→Prop)
abbrev Srt (l:List α):Prop:=l.Pairwise le
variable {le}
theorem srt_app {x y:List α}:Srt le (x++y)↔Srt le x∧Srt le y∧∀u∈x,∀v∈y,le u v:=List.pairwise_append
theorem ends_le (tr:∀{a b c:α},le a b→le b c→le a c) {x y:List α} (hx:Srt le x) (hy:Srt le y) (h:∀u v,x[x.length-1]? = some u→y[0]? = some v→le u v) (rf:∀a,le a a):∀u∈x,∀v∈y,le u v:=by
 intro u hu v hv
 obtain⟨i,hi,rfl⟩:=List.mem_iff_getElem.1 hu
 obtain⟨j,hj,rfl⟩:=List.mem_iff_getElem.1 hv
 have h1:le x[i] (x[x.length-1]'(by omega)):=by
  rcases Nat.lt_or_ge i (x.length-1) with q | q
  ·exact List.pairwise_iff_getElem.1 hx i (x.length-1) hi (by omega) q
  ·have:i=x.length-1:=by omega
   simp only [this];exact rf _
 have h2:le (y[0]'(by omega)) y[j]:=by
  rcases Nat.eq_zero_or_pos j with q | q
  ·simp only [q];exact rf _
  ·exact List.pairwise_iff_getElem.1 hy 0 j (by omega) hj q
 exact tr (tr h1 (h _ _ (gE (by omega)) (gE (by omega)))) h2
theorem merge_ok {A B C D Z1 Z2:List α} (h1:Srt le Z1) (h2:Srt le Z2) (p1:Z1.Perm (A++C)) (p2:Z2.Perm (B++D)) (hAB:∀u∈A,∀v∈B,le u v) (hAD:∀u∈A,∀v∈D,le u v) (hCB:∀u∈C,∀v∈B,le u v) (hCD:∀u∈C,∀v∈D,le u v) :
  Srt le (Z1++Z2)∧(Z1++Z2).Perm ((A++B)++(C++D)):=by
 refine⟨srt_app.2 ⟨h1,h2,fun u hu v hv=>?_⟩,?_⟩
 ·have hu:=p1.mem_iff.1 hu
  have hv:=p2.mem_iff.1 hv
  rcases List.mem_append.1 hu with hu | hu<;>rcases List.mem_append.1 hv with hv | hv
  ·exact hAB u hu v hv
  ·exact hAD u hu v hv
  ·exact hCB u hu v hv
  ·exact hCD u hu v hv
 ·refine (p1.append p2).trans ?_
  rw [aA,aA]
  refine List.Perm.append_left A ?_
  rw [←aA,←aA]
  exact List.Perm.append_right D List.perm_append_comm
def Blk (le:α→α→Prop) (n:Nat) (d:List α):Prop:=∀(i j:Nat) (hi:i<d.length) (hj:j<d.length),i<j→i / n=j / n→le d[i] d[j]
theorem Blk.nil {n:Nat}:Blk le n []:=fun i j hi=>by simp at hi
theorem Blk.srt {n:Nat} {d:List α} (h:Blk le n d) (hn:d.length≤n):Srt le d :=
 List.pairwise_iff_getElem.2 fun i j hi hj hij=>h i j hi hj hij (by rw [Nat.div_eq_of_lt (by omega),Nat.div_eq_of_lt (by omega)])
theorem Blk.take {n:Nat} {x y:List α} (h:Blk le n (x++y)):Blk le n x:=fun i j hi hj hij e=>by
 have:=h i j (by rw [lA];omega) (by rw [lA];omega) hij e
 rwa [List.getElem_append_left hi,List.getElem_append_left hj] at this
theorem Blk.drop {n:Nat} {x y:List α} (h:Blk le n (x++y)) (hn:0<n) (hx:x.length % n=0):Blk le n y:=fun i j hi hj hij e=>by
 have:=h (x.length+i) (x.length+j) (by rw [lA];omega) (by rw [lA];omega) (by omega) (by
  obtain⟨k,hk⟩:=Nat.dvd_of_mod_eq_zero hx
  rw [hk,Nat.mul_add_div hn,Nat.mul_add_div hn,e])
 rw [List.getElem_append_right (by omega),List.getElem_append_right (by omega)] at this
 simpa only [Nat.add_sub_cancel_left] using this
theorem Blk.app {n:Nat} {x y:List α} (h:Blk le n x) (hn:0<n) (hx:x.length % n=0) (hy:Blk le n y):Blk le n (x++y):=fun i j hi hj hij e=>by
 obtain⟨k,hk⟩:=Nat.dvd_of_mod_eq_zero hx
 rcases Nat.lt_or_ge j x.length with q | q
 ·rw [List.getElem_append_left (by omega),List.getElem_append_left q]
  exact h i j (by omega) q hij e
 ·rcases Nat.lt_or_ge i x.length with q' | q'
  ·exfalso
   have h1:i / n<k:=by rw [Nat.div_lt_iff_lt_mul hn,Nat.mul_comm];omega
   have h2:k≤j / n:=by rw [Nat.le_div_iff_mul_le hn,Nat.mul_comm];omega
   omega
  ·rw [List.getElem_append_right q',List.getElem_append_right q]
   rw [lA] at hi hj
   refine hy _ _ (by omega) (by omega) (by omega) ?_
   have e1:i=n*k+(i-x.length):=by omega
   have e2:j=n*k+(j-x.length):=by omega
   rw [e1,e2,Nat.mul_add_div hn,Nat.mul_add_div hn] at e
   omega
theorem Blk.of {n:Nat} {d:List α} (h:Srt le d):Blk le n d:=fun i j hi hj hij _=>List.pairwise_iff_getElem.1 h i j hi hj hij
end
end Go.Dn

namespace Go.Dn
open Go Go.RowKit
def ints (l:List Nat):List AV:=l.map fun (n:Nat)=>AV.int .i64 (n:Int)
theorem ints_len (l:List Nat):(ints l).length=l.length:=by simp [ints]
theorem ints_get {l:List Nat} {i n:Nat} (h:l[i]? = some n):(ints l)[i]? = some (.int .i64 (n:Int)):=by simp [ints,h]
theorem ints_el (l:List Nat):∀y∈ints l,El false 1 y:=fun y hy=>by
 simp only [ints,List.mem_map] at hy
 obtain⟨n,_,rfl⟩:=hy
 exact⟨rfl,rfl⟩
theorem ints_set (l:List Nat) (i n:Nat):(ints l).set i (.int .i64 (n:Int))=ints (l.set i n):=by simp [ints,List.map_set]
def ArS (S:St) (R:List Rs) (ty:TypeId) (t b:Nat) (l:List Nat):Prop:=Hs S (R++[.bx b ty ((ints l).flatMap AV.cells++[]),.mk t t b])
abbrev slA (t n:Nat) (xs:List AV):AV:=.sl 1 ⟨some (t,t),0,some n,false⟩ xs
section
variable {S:St} {R:List Rs} {ty:TypeId} {t b:Nat} {l:List Nat}
theorem ArS.hi:(R++[Rs.bx b ty ((ints l).flatMap AV.cells++[]),Rs.mk t t b])[R.length]? = some (.bx b ty ((ints l).flatMap AV.cells++[])):=by simp
theorem ArS.hj:(R++[Rs.bx b ty ((ints l).flatMap AV.cells++[]),Rs.mk t t b])[R.length+1]? = some (.mk t t b):=by simp
theorem ArS.els (h:ArS S R ty t b l) {n:Nat} {xs:List AV} (hx:xs.length=l.length):elems S false 1 ⟨some (t,t),0,some n,false⟩ xs=some (ints l):=by
 have:=arr_els h ArS.hi ArS.hj (ints_el l) (off:=0) (cap:=some n) (nl:=false) (xs:=xs) (by rw [ints_len];omega)
 rw [List.drop_zero,hx,List.take_of_length_le (by rw [ints_len];omega)] at this
 exact this
theorem ArS.st (h:ArS S R ty t b l) {gt:GT} {d:Option Nat} {env:Env} {a x:DOpd} {n:Nat} {xs:List AV} {k v:Nat} (hx:xs.length=l.length) (ha:loc env a=some (.el 1 ⟨some (t,t),0,some n,false⟩ xs k 0)) (hv:opd env x=some (.int .i64 (v:Int))) (hk:k<l.length) :
  ∃S',stepO gt d env S (.st 1 a x)=.done (putV d .undef env) S'∧ArS S' R ty t b (l.set k v):=by
 obtain⟨S',h1,h2⟩:=arr_st h R.length ArS.hi ArS.hj (fun y hy=>(ints_el l y hy).1) (gt:=gt) (d:=d) (env:=env) (a:=a) (x:=x) (xs:=xs) (so:=0) (k:=k) (off:=0) (sz:=1) (cap:=some n) (nl:=false) (v:=.int .i64 (v:Int)) (v':=.int .i64 (v:Int)) ha hv rfl (by omega) (by rw [ints_len];omega) (Nat.le_refl 1) (by
  have hc:(ints l)[0+k]'(by rw [ints_len];omega)=.int .i64 ((l[k]:Nat):Int):=by simp [ints]
  rw [hc];rfl)
 refine⟨S',h1,?_⟩
 rw [Nat.zero_add,ints_set] at h2
 unfold ArS
 simpa using h2
end
theorem st_runPD {C:CallT} {gt:GT} {d:Option Nat} {op:DOp} {gd:Option (Nat×Bool)} {l:Option Nat} {env env':Env} {S:St} {P:St→Prop} {K:Env→St→Prop} {Q:Ex→Env→St→Prop} (h:∃S',stepO gt d env S op=.done env' S'∧P S') (hg:Gd env gd) (h0:isLoc op=false) (h1:conform l env op=true) (k:∀S',P S'→K env' S'):afterS C d env S K Q (stepD gt (⟨d,op,gd⟩,l) env S):=by
 obtain⟨S',h2,h3⟩:=h
 exact st_anyD hg h0 h1 h2 (k S' h3)
theorem set_mid {α:Type} {P Q:List α} {x y:α} {n:Nat} (h:n=P.length):(P++(x::Q)).set n y=P++(y::Q):=by
 subst h
 rw [List.set_append_right _ _ (Nat.le_refl _),Nat.sub_self];rfl
theorem get_mid {α:Type} {P Q:List α} {x:α} {n:Nat} (h:n=P.length):(P++(x::Q))[n]? = some x:=by
 subst h
 rw [List.getElem?_append_right (Nat.le_refl _),Nat.sub_self];rfl
end Go.Dn

namespace Go.Dn
open Go Go.Proofs.C1
set_option maxRecDepth 100000
attribute [local irreducible] afterS keepE
section
variable {gt:GT} {C:CallT} {R:List Rs} {ty:TypeId} {t b:Nat}
def SwapC (C:CallT) (R:List Rs) (ty:TypeId) (t b:Nat) (g:AV):Prop :=
 ∀(S:St) (xs:List AV) (P X M Y Q:List Nat) (a c n:Nat),a=P.length→c=P.length+X.length+M.length→n=X.length→xs.length=(P++(X++(M++(Y++Q)))).length→(P++(X++(M++(Y++Q)))).length<4611686018427387904→X.length=Y.length→ArS S R ty t b (P++(X++(M++(Y++Q)))) →
  C 150 [slA t xs.length xs,.int .i64 a,.int .i64 c,.int .i64 n,g] S fun r S'=>r=.ret (.tup [])∧ArS S' R ty t b (P++(Y++(M++(X++Q))))
def RotC (C:CallT) (R:List Rs) (ty:TypeId) (t b:Nat) (g:AV):Prop :=
 ∀(S:St) (xs:List AV) (P X Y Q:List Nat) (a m c:Nat),a=P.length→m=P.length+X.length→c=P.length+X.length+Y.length→X≠[]→Y≠[]→xs.length=(P++(X++(Y++Q))).length→(P++(X++(Y++Q))).length<2305843009213693952→ArS S R ty t b (P++(X++(Y++Q))) →
  C 133 [slA t xs.length xs,.int .i64 a,.int .i64 m,.int .i64 c,g] S fun r S'=>r=.ret (.tup [])∧ArS S' R ty t b (P++(Y++(X++Q)))
abbrev E_sw (t:Nat) (xs:List AV) (a c n i:Nat):Env:=[(0,.val (slA t xs.length xs)),(1,.val (.int .i64 a)),(2,.val (.int .i64 c)),(3,.val (.int .i64 n)),(10,.val (.int .i64 i))]
set_option maxHeartbeats 4000000 in
theorem swap_wp (hm:MonoC C) {S:St} {xs:List AV} {P X M Y Q:List Nat} {g:AV} (hx:xs.length=(P++(X++(M++(Y++Q)))).length) (hl:(P++(X++(M++(Y++Q)))).length<4611686018427387904) (hxy:X.length=Y.length) (hA:ArS S R ty t b (P++(X++(M++(Y++Q))))) :
  wpF gt C F150 [slA t xs.length xs,.int .i64 P.length,.int .i64 ((P.length+X.length+M.length:Nat):Int),.int .i64 X.length,g] S fun r S'=>r=.ret (.tup [])∧ArS S' R ty t b (P++(Y++(M++(X++Q)))):=by
 have hlen:(P++(X++(M++(Y++Q)))).length=P.length+(X.length+(M.length+(Y.length+Q.length))):=by simp only [lA]
 rw [hlen] at hx hl
 refine⟨rfl,?_⟩
 refine goW ?_
 refine loop_rule hm (α:=Nat×List Nat×List Nat×List Nat×List Nat) (fun a env S'=>env=E_sw t xs P.length (P.length+X.length+M.length) X.length a.1∧a.1+a.2.2.1.length=X.length∧a.2.1.length=P.length+a.1∧a.2.2.1.length=a.2.2.2.2.length∧a.2.1.length+a.2.2.1.length+a.2.2.2.1.length=P.length+X.length+M.length+a.1 ∧
   ArS S' R ty t b (a.2.1++(a.2.2.1++(a.2.2.2.1++(a.2.2.2.2++Q))))∧P++(Y++(M++(X++Q)))=a.2.1++(a.2.2.2.2++(a.2.2.2.1++(a.2.2.1++Q)))) (fun a=>X.length-a.1) ?_ (a:=(0,P,X,M,Y)) ⟨rfl,by simp,by simp,hxy,by simp,hA,rfl⟩
 rintro⟨i,Pi,Xi,Mi,Yi⟩ env S' ⟨rfl,h1,h2,h3,h4,hA,hT⟩
 simp only at h1 h2 h3 h4 hA hT
 refine goW ?_
 by_cases hc:(i:Int)<(X.length:Nat)
 ·rw [dT hc]
  match Xi,Yi,h1,h3,h4,hA,hT with
  | [],_,h1,_,_,_,_=>simp at h1;omega
  | _::_,[],_,h3,_,_,_=>simp at h3
  | x::Xr,y::Yr,h1,h3,h4,hA,hT =>
  simp only [lC] at h1 h3 h4
  have hla:(Pi++((x::Xr)++(Mi++((y::Yr)++Q)))).length=xs.length:=by simp only [lA,lC];omega
  have g1:(Pi++((x::Xr)++(Mi++((y::Yr)++Q))))[P.length+i]? = some x:=get_mid (by omega)
  have g2:(Pi++((x::Xr)++(Mi++((y::Yr)++Q))))[P.length+X.length+M.length+i]? = some y:=by
   rw [show Pi++((x::Xr)++(Mi++((y::Yr)++Q)))=(Pi++((x::Xr)++Mi))++(y::(Yr++Q)) by simp only [aA,List.cons_append]]
   exact get_mid (by simp only [lA,lC];omega)
  have s1:(Pi++((x::Xr)++(Mi++((y::Yr)++Q)))).set (P.length+i) y=Pi++(y::(Xr++(Mi++((y::Yr)++Q)))):=set_mid (by omega)
  have s2:(Pi++(y::(Xr++(Mi++((y::Yr)++Q))))).set (P.length+X.length+M.length+i) x=(Pi++[y])++(Xr++((Mi++[x])++(Yr++Q))):=by
   rw [show Pi++(y::(Xr++(Mi++((y::Yr)++Q))))=(Pi++(y::(Xr++Mi)))++(y::(Yr++Q)) by simp only [aA,List.cons_append],set_mid (by simp only [lA,lC];omega)]
   simp only [aA,List.cons_append,List.nil_append]
  generalize Pi++((x::Xr)++(Mi++((y::Yr)++Q)))=l at hA hla g1 g2 s1
  have k1:P.length+i<l.length:=by omega
  have k2:P.length+X.length+M.length+i<l.length:=by omega
  have w1:wr .i64 ((P.length:Int)+(i:Int))=((P.length+i:Nat):Int):=by rw [wr64 (by omega) (by omega)];omega
  have w2:wr .i64 (((P.length+X.length+M.length:Nat):Int)+(i:Int))=((P.length+X.length+M.length+i:Nat):Int):=by rw [wr64 (by omega) (by omega)];omega
  refine goW ?_
  rw [w1,w2]
  refine step_ruleDO rfl rfl (sx_ia (k:=P.length+X.length+M.length+i) rfl rfl (by omega)) (goW ?_)
  refine step_ruleDO rfl rfl (sx_ldEl (agg:=false) rfl (hA.els hla.symm) (ints_get g2) rfl) (goW ?_)
  rw [w1]
  refine step_ruleDO rfl rfl (sx_ia (k:=P.length+i) rfl rfl (by omega)) (goW ?_)
  refine step_ruleDO rfl rfl (sx_ldEl (agg:=false) rfl (hA.els hla.symm) (ints_get g1) rfl) (goW ?_)
  refine step_ruleDO rfl rfl (sx_ia (k:=P.length+i) rfl rfl (by omega)) (goW ?_)
  refine st_runPD (hA.st hla.symm rfl rfl k1) (by trivial) rfl rfl ?_
  intro S2 hA
  rw [s1] at hA
  refine goW ?_
  refine step_ruleDO rfl rfl (sx_ia (k:=P.length+X.length+M.length+i) rfl rfl (by omega)) (goW ?_)
  have hl2:(Pi++(y::(Xr++(Mi++((y::Yr)++Q))))).length=l.length:=by rw [←s1,List.length_set]
  refine st_runPD (hA.st (by omega) rfl rfl (by omega)) (by trivial) rfl rfl ?_
  intro S3 hA
  rw [s2] at hA
  refine goW ?_
  refine⟨(i+1,Pi++[y],Xr,Mi++[x],Yr),⟨?_,by simp only;omega,by simp only [lA,lC,List.length_nil];omega,by simp only;omega,by simp only [lA,lC,List.length_nil];omega,hA,?_⟩,by simp only;omega⟩
  ·rw [wrNat (by omega)]
  ·rw [hT];simp only [aA,List.cons_append,List.nil_append]
 ·rw [dF hc]
  have e1:Xi=[]:=nL (by omega)
  have e2:Yi=[]:=nL (by omega)
  subst e1;subst e2
  refine goW ?_
  refine⟨_,rfl,rfl,?_⟩
  rw [hT];exact hA
abbrev E_ro (t:Nat) (xs:List AV) (m:Nat) (g:AV) (i j:Nat):Env:=[(0,.val (slA t xs.length xs)),(2,.val (.int .i64 m)),(4,.val g),(10,.val (.int .i64 i)),(11,.val (.int .i64 j))]
set_option maxHeartbeats 4000000 in
theorem rot_wp (hm:MonoC C) {f:FuncId} {cs:List AV} (hsw:SwapC C R ty t b (.fn f [] cs)) {S:St} {xs:List AV} {P X Y Q:List Nat} (h1:X≠[]) (h2:Y≠[]) (hx:xs.length=(P++(X++(Y++Q))).length) (hl:(P++(X++(Y++Q))).length<2305843009213693952) (hA:ArS S R ty t b (P++(X++(Y++Q)))) :
  wpF gt C F133 [slA t xs.length xs,.int .i64 P.length,.int .i64 ((P.length+X.length:Nat):Int),.int .i64 ((P.length+X.length+Y.length:Nat):Int),.fn f [] cs] S fun r S'=>r=.ret (.tup [])∧ArS S' R ty t b (P++(Y++(X++Q))):=by
 have hlen:(P++(X++(Y++Q))).length=P.length+(X.length+(Y.length+Q.length)):=by simp only [lA]
 rw [hlen] at hx hl
 have p1:0<X.length:=List.length_pos_iff.2 h1
 have p2:0<Y.length:=List.length_pos_iff.2 h2
 refine⟨rfl,?_⟩
 refine goW ?_
 rw [show wr .i64 (((P.length+X.length:Nat):Int)-(P.length:Int))=(X.length:Int) by rw [wr64 (by omega) (by omega)];omega,show wr .i64 (((P.length+X.length+Y.length:Nat):Int)-((P.length+X.length:Nat):Int))=(Y.length:Int) by rw [wr64 (by omega) (by omega)];omega]
 refine loop_rule hm (α:=List Nat×List Nat×List Nat×List Nat) (fun a env S'=>env=E_ro t xs (P.length+X.length) (.fn f [] cs) a.2.1.length a.2.2.1.length∧0<a.2.1.length∧0<a.2.2.1.length∧a.1.length+a.2.1.length=P.length+X.length∧xs.length=(a.1++(a.2.1++(a.2.2.1++a.2.2.2))).length ∧
   ArS S' R ty t b (a.1++(a.2.1++(a.2.2.1++a.2.2.2)))∧P++(Y++(X++Q))=a.1++(a.2.2.1++(a.2.1++a.2.2.2))) (fun a=>a.2.1.length+a.2.2.1.length) ?_ (a:=(P,X,Y,Q)) ⟨rfl,p1,p2,rfl,by rw [hlen,hx],hA,rfl⟩
 rintro⟨P',L,U,Q'⟩ env S' ⟨rfl,l1,l2,l3,l4,hA,hT⟩
 simp only at l1 l2 l3 l4 hA hT
 have hlen':(P'++(L++(U++Q'))).length=P'.length+(L.length+(U.length+Q'.length)):=by simp only [lA]
 have w1:wr .i64 (((P.length+X.length:Nat):Int)-(L.length:Int))=((P'.length:Nat):Int):=by rw [wr64 (by omega) (by omega)];omega
 refine goW ?_
 by_cases hne:(L.length:Int)=U.length
 ·rw [neI_false hne]
  refine goW ?_
  rw [w1]
  refine call_rule (by rfl) (hm _ _ _ _ _ (hsw S' xs P' L [] U Q' P'.length (P.length+X.length) L.length rfl (by simp only [List.length_nil];omega) rfl l4 (by simp only [List.nil_append];omega) (by omega) hA) ?_)
  rintro r S2 ⟨rfl,hA⟩
  refine goW ?_
  refine⟨_,rfl,rfl,?_⟩
  rw [hT];exact hA
 rw [neI_true hne]
 refine goW ?_
 by_cases hgt:(L.length:Int) > U.length
 ·rw [dT hgt]
  obtain⟨L1,L2,hL,e1,hLl⟩:∃L1 L2,L=L1++L2∧L1.length=U.length∧L1.length+L2.length=L.length:=⟨L.take U.length,L.drop U.length,(tkD _ _).symm,by rw [lT];omega,by rw [lT,lD];omega⟩
  have l5:xs.length=(P'++(L1++(L2++(U++Q')))).length:=by simp only [lA];omega
  rw [hL,aA] at hA hT
  refine goW ?_
  rw [w1]
  refine call_rule (by rfl) (hm _ _ _ _ _ (hsw S' xs P' L1 L2 U Q' P'.length (P.length+X.length) U.length rfl (by omega) (by omega) l5 (by rw [←l5];omega) e1 hA) ?_)
  rintro r S2 ⟨rfl,hA⟩
  refine goW ?_
  refine⟨(P'++U,L2,L1,Q'),⟨?_,by simp only;omega,by simp only;omega,by simp only [lA];omega,?_,?_,?_⟩,by simp only;omega⟩
  ·simp only [E_ro]
   rw [wr64 (by omega) (by omega),show (L.length:Int)-(U.length:Int)=(L2.length:Int) by omega,e1]
   try rfl
  ·simp only [lA];omega
  ·rw [aA];exact hA
  ·rw [hT];simp only [aA]
 ·rw [dF hgt]
  obtain⟨U1,U2,hU,e1,hUl⟩:∃U1 U2,U=U1++U2∧U2.length=L.length∧U1.length+U2.length=U.length:=⟨U.take (U.length-L.length),U.drop (U.length-L.length),(tkD _ _).symm,by rw [lD];omega,by rw [lT,lD];omega⟩
  have l5:xs.length=(P'++(L++(U1++(U2++Q')))).length:=by simp only [lA];omega
  rw [hU,aA] at hA hT
  refine goW ?_
  rw [w1,wr64 (n:=((P.length+X.length:Nat):Int)+(U.length:Int)) (by omega) (by omega),show wr .i64 (((P.length+X.length:Nat):Int)+(U.length:Int)-(L.length:Int))=((P.length+X.length+U1.length:Nat):Int) by rw [wr64 (by omega) (by omega)];omega]
  refine call_rule (by rfl) (hm _ _ _ _ _ (hsw S' xs P' L U1 U2 Q' P'.length (P.length+X.length+U1.length) L.length rfl (by omega) rfl l5 (by rw [←l5];omega) e1.symm hA) ?_)
  rintro r S2 ⟨rfl,hA⟩
  refine goW ?_
  refine⟨(P',U2,U1,L++Q'),⟨?_,by simp only;omega,by simp only;omega,by simp only;omega,?_,hA,?_⟩,by simp only;omega⟩
  ·simp only [E_ro]
   rw [wr64 (by omega) (by omega),show (U.length:Int)-(L.length:Int)=(U1.length:Int) by omega,e1]
   try rfl
  ·simp only [lA];omega
  ·rw [hT]
end

structure Cz (cz:Nat→Nat→Int):Prop where
 rf:∀a,0≤cz a a
 tr:∀{a b c},0≤cz b a→0≤cz c b→0≤cz c a
 asy:∀{a b},cz a b<0→0≤cz b a
def leZ (cz:Nat→Nat→Int) (a b:Nat):Prop:=0≤cz b a
def CmpC (C:CallT) (f:FuncId) (cs:List AV) (R:List Rs) (ty:TypeId) (t b n:Nat) (cz:Nat→Nat→Int):Prop :=
 ∀(S:St) (l:List Nat) (i j:Nat),ArS S R ty t b l→i<n→j<n→C f (.int .i64 i::.int .i64 j::cs) S fun r S'=>r=.ret (.int .i64 (cz i j))∧S'=S
section
variable {gt:GT} {C:CallT} {R:List Rs} {ty:TypeId} {t b:Nat}
def InsC (C:CallT) (R:List Rs) (ty:TypeId) (t b n:Nat) (g:AV) (cz:Nat→Nat→Int):Prop :=
 ∀(S:St) (xs:List AV) (P X Q:List Nat) (a c:Nat),a=P.length→c=P.length+X.length→(∀x∈X,x<n)→xs.length=(P++(X++Q)).length→(P++(X++Q)).length<2305843009213693952→ArS S R ty t b (P++(X++Q)) →
  C 108 [slA t xs.length xs,.int .i64 a,.int .i64 c,g] S fun r S'=>r=.ret (.tup [])∧∃Z,Z.Perm X∧Srt (leZ cz) Z∧ArS S' R ty t b (P++(Z++Q))
abbrev E_in (t:Nat) (xs:List AV) (a c:Nat) (g:AV) (i:Nat):Env:=[(0,.val (slA t xs.length xs)),(1,.val (.int .i64 a)),(2,.val (.int .i64 c)),(3,.val g),(8,.val (.int .i64 i))]
abbrev E_in2 (t:Nat) (xs:List AV) (a c:Nat) (g:AV) (i j:Nat):Env:=[(0,.val (slA t xs.length xs)),(1,.val (.int .i64 a)),(2,.val (.int .i64 c)),(3,.val g),(8,.val (.int .i64 i)),(9,.val (.int .i64 j))]
theorem srt_ins {cz:Nat→Nat→Int} (hz:Cz cz) {L U:List Nat} {x:Nat} (h:Srt (leZ cz) (L++U)) (h1:∀u∈U,cz x u<0) (h2:∀v,L[L.length-1]? = some v→0≤cz x v):Srt (leZ cz) (L++(x::U)):=by
 obtain⟨a,c,d⟩:=srt_app.1 h
 have hL:∀u∈L,leZ cz u x:=fun u hu=>by
  have:=ends_le (le:=leZ cz) (fun h h'=>hz.tr h h') (x:=L) (y:=[x]) a (List.pairwise_singleton _ _) (fun u v e1 e2=>by
   simp only [List.getElem?_cons_zero,oI] at e2
   subst e2
   exact h2 u e1) (fun a=>hz.rf a)
  exact this u hu x (by simp)
 refine srt_app.2 ⟨a,List.pairwise_cons.2 ⟨fun u hu=>hz.asy (h1 u hu),c⟩,fun u hu v hv=>?_⟩
 rcases List.mem_cons.1 hv with rfl | hv
 ·exact hL u hu
 ·exact d u hu v hv
set_option maxHeartbeats 8000000 in
theorem ins_wp (hm:MonoC C) {f:FuncId} {cs:List AV} {n:Nat} {cz:Nat→Nat→Int} (hz:Cz cz) (hc:CmpC C f cs R ty t b n cz) {S:St} {xs:List AV} {P X Q:List Nat} (hX:∀x∈X,x<n) (hx:xs.length=(P++(X++Q)).length) (hl:(P++(X++Q)).length<2305843009213693952) (hA:ArS S R ty t b (P++(X++Q))) :
  wpF gt C F108 [slA t xs.length xs,.int .i64 P.length,.int .i64 ((P.length+X.length:Nat):Int),.fn f [] cs] S fun r S'=>r=.ret (.tup [])∧∃Z,Z.Perm X∧Srt (leZ cz) Z∧ArS S' R ty t b (P++(Z++Q)):=by
 have hlen:(P++(X++Q)).length=P.length+(X.length+Q.length):=by simp only [lA]
 rw [hlen] at hx hl
 refine⟨rfl,?_⟩
 refine goW ?_
 rw [wrNat (by omega)]
 refine loop_rule hm (α:=List Nat×List Nat×Nat) (fun a env S'=>env=E_in t xs P.length (P.length+X.length) (.fn f [] cs) a.2.2∧(a.2.2=P.length+a.1.length∨(a.2.1=[]∧P.length+X.length≤a.2.2∧a.2.2≤P.length+X.length+1))∧(a.1++a.2.1).Perm X∧Srt (leZ cz) a.1∧ArS S' R ty t b (P++(a.1++(a.2.1++Q)))) (fun a=>P.length+X.length+1-a.2.2) ?_
  (a:=(X.take 1,X.drop 1,P.length+1)) ⟨rfl,?_,by rw [tkD],?_,by rw [←aA (X.take 1),tkD];exact hA⟩
 case refine_2 =>
  cases X with
  | nil=>right;exact⟨rfl,by simp,by simp⟩
  | cons x r=>left;simp
 case refine_3 =>
  cases X with
  | nil=>exact List.Pairwise.nil
  | cons x r=>exact List.pairwise_singleton _ _
 rintro⟨Z,W,i⟩ env S' ⟨rfl,hi,hp,hs,hA⟩
 simp only at hi hp hs hA
 have hpl:=hp.length_eq
 rw [lA] at hpl
 have hmem:∀x∈Z++W,x<n:=fun x hx=>hX x (hp.mem_iff.1 hx)
 refine goW ?_
 by_cases hc1:(i:Int)<((P.length+X.length:Nat):Int)
 ·rw [dT hc1]
  have hi':i=P.length+Z.length:=by
   rcases hi with h | ⟨h1,h2,h3⟩
   ·exact h
   ·omega
  cases W with
  | nil=>simp only [List.length_nil] at hpl;omega
  | cons x W' =>
  simp only [lC] at hpl
  have hxn:x<n:=hmem x (by simp)
  refine goW ?_
  refine loop_rule hm (α:=List Nat×List Nat) (fun a env S'=>env=E_in2 t xs P.length (P.length+X.length) (.fn f [] cs) i (P.length+a.1.length)∧a.1++a.2=Z∧(∀u∈a.2,cz x u<0)∧ArS S' R ty t b (P++(a.1++(x::(a.2++(W'++Q)))))) (fun a=>a.1.length) ?_ (a:=(Z,[])) ⟨by rw [hi'],by simp,fun u hu=>by simp at hu,by simpa using hA⟩
  rintro⟨L,U⟩ env S2 ⟨rfl,hLU,hU,hA⟩
  simp only at hLU hU hA
  have hzl:=congrArg List.length hLU
  rw [lA] at hzl
  have hxl:xs.length=(P++(L++(x::(U++(W'++Q))))).length:=by simp only [lA,lC];omega
  have done:(∀v,L[L.length-1]? = some v→0≤cz x v)→∃a:List Nat×List Nat×Nat,(E_in t xs P.length (P.length+X.length) (.fn f [] cs) (i+1)=E_in t xs P.length (P.length+X.length) (.fn f [] cs) a.2.2∧(a.2.2=P.length+a.1.length∨(a.2.1=[]∧P.length+X.length≤a.2.2∧a.2.2≤P.length+X.length+1))∧(a.1++a.2.1).Perm X∧Srt (leZ cz) a.1∧ArS S2 R ty t b (P++(a.1++(a.2.1++Q))))∧P.length+X.length+1-a.2.2<P.length+X.length+1-i:=fun h=>by
   refine⟨(L++(x::U),W',i+1),⟨rfl,.inl (by simp only [lA,lC];omega),?_,?_,?_⟩,by simp only;omega⟩
   ·refine List.Perm.trans ?_ hp
    simp only
    rw [←hLU,aA,aA,List.cons_append]
    exact List.Perm.append_left L (List.perm_middle.symm)
   ·exact srt_ins hz (by rw [hLU];exact hs) hU h
   ·simpa only [aA,List.cons_append] using hA
  refine goW ?_
  rcases List.eq_nil_or_concat L with hL | ⟨L',v,hL⟩
  ·subst hL
   rw [dF (show ¬((P.length+([]:List Nat).length:Nat):Int) > (P.length:Int) by simp)]
   have done:=done (fun v h=>by simp at h)
   refine goW ?_
   rw [wrNat (by omega)]
   exact done
  rw [List.concat_eq_append] at hL
  subst hL
  have hvl:(L'++[v]).length=L'.length+1:=by simp
  rw [hvl] at hzl
  have hvn:v<n:=hmem v (by rw [←hLU];simp)
  have hA0:=hA
  have done:=fun (h:0≤cz x v)=>done (fun v' h'=>by
   rw [hvl,Nat.add_sub_cancel,get_mid rfl] at h'
   cases h';exact h)
  have e1:P++((L'++[v])++(x::(U++(W'++Q))))=(P++L')++(v::(x::(U++(W'++Q)))):=by simp only [aA,List.cons_append,List.nil_append]
  have e2:P++((L'++[v])++(x::(U++(W'++Q))))=(P++(L'++[v]))++(x::(U++(W'++Q))):=by simp only [aA,List.cons_append,List.nil_append]
  have g1:(P++((L'++[v])++(x::(U++(W'++Q)))))[P.length+L'.length]? = some v:=by rw [e1];exact get_mid (by rw [lA])
  have g2:(P++((L'++[v])++(x::(U++(W'++Q)))))[P.length+L'.length+1]? = some x:=by rw [e2];exact get_mid (by simp only [lA,lC,List.length_nil];omega)
  have s1:(P++((L'++[v])++(x::(U++(W'++Q))))).set (P.length+L'.length+1) v=(P++L')++(v::(v::(U++(W'++Q)))):=by
   rw [e2,set_mid (by simp only [lA,lC,List.length_nil];omega)]
   simp only [aA,List.cons_append,List.nil_append]
  have s2:((P++L')++(v::(v::(U++(W'++Q))))).set (P.length+L'.length) x=P++(L'++(x::((v::U)++(W'++Q)))):=by
   rw [set_mid (by rw [lA])]
   simp only [aA,List.cons_append]
  have hls:((P++L')++(v::(v::(U++(W'++Q))))).length=xs.length:=by rw [←s1,List.length_set,hxl]
  generalize hgl:P++((L'++[v])++(x::(U++(W'++Q))))=l at hA g1 g2 s1 hxl
  rw [hvl]
  have k1:P.length+L'.length<l.length:=by omega
  have k2:P.length+L'.length+1<l.length:=by omega
  have w1:wr .i64 (((P.length+(L'.length+1):Nat):Int)-1)=((P.length+L'.length:Nat):Int):=by rw [wr64 (by omega) (by omega)];omega
  rw [dT (show ((P.length+(L'.length+1):Nat):Int) > (P.length:Int) by omega)]
  refine goW ?_
  refine st_anyD (by exact rfl) rfl rfl (sx_ia (k:=P.length+L'.length+1) rfl rfl (by omega)) (goW ?_)
  refine st_anyD (by exact rfl) rfl rfl (sx_ldEl (agg:=false) rfl (hA.els hxl) (ints_get g2) rfl) (goW ?_)
  rw [w1]
  refine st_anyD (by exact rfl) rfl rfl (sx_ia (k:=P.length+L'.length) rfl rfl (by omega)) (goW ?_)
  refine st_anyD (by exact rfl) rfl rfl (sx_ldEl (agg:=false) rfl (hA.els hxl) (ints_get g1) rfl) (goW ?_)
  refine call_ruleD (by rfl) (hm _ _ _ _ _ (hc S2 l x v hA hxn hvn) ?_)
  rintro r S3 ⟨rfl,rfl⟩
  refine goW ?_
  by_cases hlt:cz x v<0
  case neg =>
   rw [dF hlt]
   have done:=done (by omega)
   refine goW ?_
   rw [wrNat (by omega)]
   exact done
  rw [dT hlt]
  refine goW ?_
  rw [w1]
  refine step_ruleDO rfl rfl (sx_ia (k:=P.length+L'.length) rfl rfl (by omega)) (goW ?_)
  refine step_ruleDO rfl rfl (sx_ldEl (agg:=false) rfl (hA.els hxl) (ints_get g1) rfl) (goW ?_)
  refine step_ruleDO rfl rfl (sx_ia (k:=P.length+L'.length+1) rfl rfl (by omega)) (goW ?_)
  refine step_ruleDO rfl rfl (sx_ldEl (agg:=false) rfl (hA.els hxl) (ints_get g2) rfl) (goW ?_)
  refine step_ruleDO rfl rfl (sx_ia (k:=P.length+L'.length+1) rfl rfl (by omega)) (goW ?_)
  refine st_runPD (hA.st hxl rfl rfl k2) (by trivial) rfl rfl ?_
  intro S4 hA
  rw [s1] at hA
  refine goW ?_
  refine step_ruleDO rfl rfl (sx_ia (k:=P.length+L'.length) rfl rfl (by omega)) (goW ?_)
  refine st_runPD (hA.st hls.symm rfl rfl (by omega)) (by trivial) rfl rfl ?_
  intro S5 hA
  rw [s2] at hA
  refine goW ?_
  refine⟨(L',v::U),⟨?_,by rw [←hLU];simp,fun u hu=>?_,hA⟩,by simp only [hvl];omega⟩
  ·rw [w1]
  ·rcases List.mem_cons.1 hu with rfl | hu
   ·exact hlt
   ·exact hU u hu
 ·rw [dF hc1]
  have hW:W=[]:=by
   rcases hi with h | ⟨h1,_⟩
   ·exact nL (by omega)
   ·exact h1
  subst hW
  rw [List.append_nil] at hp
  refine goW ?_
  exact⟨_,rfl,rfl,Z,hp,hs,by simpa using hA⟩
end

theorem ltZ_le {cz:Nat→Nat→Int} (hz:Cz cz) {u y x:Nat} (h:leZ cz u y) (h1:cz y x<0):cz u x<0:=by
 rcases Int.lt_or_le (cz u x) 0 with q | q
 ·exact q
 ·have:0≤cz y x:=hz.tr (a:=x) (b:=u) (c:=y) q h
  omega
theorem srt_take_le {cz:Nat→Nat→Int} (hz:Cz cz) {Y:List Nat} (h:Srt (leZ cz) Y) {k:Nat} (hk:k<Y.length):∀u∈Y.take (k+1),leZ cz u Y[k]:=by
 intro u hu
 obtain⟨i,hi,rfl⟩:=List.mem_iff_getElem.1 hu
 rw [lT] at hi
 rw [List.getElem_take]
 rcases Nat.lt_or_ge i k with q | q
 ·exact List.pairwise_iff_getElem.1 h i k (by omega) hk q
 ·have:i=k:=by omega
  subst this;exact hz.rf _
theorem srt_drop_ge {cz:Nat→Nat→Int} (hz:Cz cz) {Y:List Nat} (h:Srt (leZ cz) Y) {k:Nat} (hk:k<Y.length):∀u∈Y.drop k,leZ cz Y[k] u:=by
 intro u hu
 obtain⟨i,hi,rfl⟩:=List.mem_iff_getElem.1 hu
 rw [lD] at hi
 rw [List.getElem_drop]
 rcases Nat.eq_zero_or_pos i with q | q
 ·subst q;exact hz.rf _
 ·exact List.pairwise_iff_getElem.1 h k (k+i) hk (by omega) (by omega)
theorem srt_put {cz:Nat→Nat→Int} {Y:List Nat} {x p:Nat} (h:Srt (leZ cz) Y) (h1:∀u∈Y.take p,leZ cz u x) (h2:∀u∈Y.drop p,leZ cz x u):Srt (leZ cz) (Y.take p++(x::Y.drop p)):=by
 rw [←tkD p Y] at h
 obtain⟨a,c,d⟩:=srt_app.1 h
 refine srt_app.2 ⟨a,List.pairwise_cons.2 ⟨h2,c⟩,fun u hu v hv=>?_⟩
 rcases List.mem_cons.1 hv with rfl | hv
 ·exact h1 u hu
 ·exact d u hu v hv
theorem midW {i j:Nat} (h:i+j<9223372036854775808):wr .i64 ((wr .u64 (wr .i64 ((i:Int)+(j:Int)))).fdiv (2 ^ (min (Int.toNat 1) (IntKind.bits .u64))))=(((i+j) / 2:Nat):Int):=by
 rw [wr64 (n:=(i:Int)+(j:Int)) (by omega) (by omega),wr_eq .u64,show IntKind.u64.wrap ((i:Int)+(j:Int))=((i+j:Nat):Int) by
  have:∀n:Int,IntKind.u64.wrap n=n % 18446744073709551616:=fun n=>by simp [IntKind.wrap,IntKind.bits,IntKind.signed]
  rw [this];omega]
 rw [show min (Int.toNat 1) (IntKind.bits .u64)=1 by decide,show ((2:Int) ^ 1)=2 by decide,Int.fdiv_eq_ediv_of_nonneg _ (by decide),wr64 (by omega) (by omega)]
 omega
section
variable {gt:GT} {C:CallT} {R:List Rs} {ty:TypeId} {t b:Nat}
def MrgC (C:CallT) (R:List Rs) (ty:TypeId) (t b n:Nat) (g:AV) (cz:Nat→Nat→Int) (k:Nat):Prop :=
 ∀(S:St) (xs:List AV) (P X Y Q:List Nat) (a m c:Nat),X.length+Y.length≤k→a=P.length→m=P.length+X.length→c=P.length+X.length+Y.length→X≠[]→Y≠[]→(∀x∈X++Y,x<n)→Srt (leZ cz) X→Srt (leZ cz) Y→xs.length=(P++(X++(Y++Q))).length→(P++(X++(Y++Q))).length<1152921504606846976→ArS S R ty t b (P++(X++(Y++Q))) →
  C 109 [slA t xs.length xs,.int .i64 a,.int .i64 m,.int .i64 c,g] S fun r S'=>r=.ret (.tup [])∧∃Z,Z.Perm (X++Y)∧Srt (leZ cz) Z∧ArS S' R ty t b (P++(Z++Q))
abbrev E_m1 (t:Nat) (xs:List AV) (a:Nat) (g:AV) (i j:Nat):Env:=[(0,.val (slA t xs.length xs)),(1,.val (.int .i64 a)),(4,.val g),(10,.val (.int .i64 i)),(11,.val (.int .i64 j))]
abbrev E_m1b (t:Nat) (xs:List AV) (i k:Nat):Env:=[(0,.val (slA t xs.length xs)),(10,.val (.int .i64 i)),(13,.val (.int .i64 k))]
set_option maxHeartbeats 8000000 in
theorem mrg1_wp (hm:MonoC C) {f:FuncId} {cs:List AV} {n:Nat} {cz:Nat→Nat→Int} (hz:Cz cz) (hc:CmpC C f cs R ty t b n cz) {S:St} {xs:List AV} {P Y Q:List Nat} {x:Nat} (hY:∀y∈Y,y<n) (hxn:x<n) (hs:Srt (leZ cz) Y) (hx:xs.length=(P++(x::(Y++Q))).length) (hl:(P++(x::(Y++Q))).length<1152921504606846976) (hA:ArS S R ty t b (P++(x::(Y++Q)))) :
  wpF gt C F109 [slA t xs.length xs,.int .i64 P.length,.int .i64 ((P.length+1:Nat):Int),.int .i64 ((P.length+1+Y.length:Nat):Int),.fn f [] cs] S fun r S'=>r=.ret (.tup [])∧∃Z,Z.Perm (x::Y)∧Srt (leZ cz) Z∧ArS S' R ty t b (P++(Z++Q)):=by
 have hlen:(P++(x::(Y++Q))).length=P.length+(Y.length+Q.length+1):=by simp only [lA,lC]
 rw [hlen] at hl
 refine⟨rfl,?_⟩
 refine goW ?_
 rw [show wr .i64 (((P.length+1:Nat):Int)-(P.length:Int))=1 by rw [wr64 (by omega) (by omega)];omega]
 refine goW ?_
 refine loop_rule hm (α:=Nat×Nat) (fun a env S'=>env=E_m1 t xs P.length (.fn f [] cs) (P.length+1+a.1) (P.length+1+a.2)∧a.1≤a.2∧a.2≤Y.length∧S'=S∧(∀u∈Y.take a.1,cz u x<0)∧(∀u∈Y.drop a.2,0≤cz u x)) (fun a=>a.2-a.1) ?_ (a:=(0,Y.length)) ⟨rfl,Nat.zero_le _,Nat.le_refl _,rfl,by simp,by simp⟩
 rintro⟨i,j⟩ env S' ⟨rfl,h1,h2,rfl,h3,h4⟩
 simp only at h1 h2 h3 h4
 refine goW ?_
 by_cases hij:((P.length+1+i:Nat):Int)<((P.length+1+j:Nat):Int)
 ·rw [dT hij]
  obtain⟨r,hr⟩:∃r,r=(i+j) / 2:=⟨_,rfl⟩
  have hri:i≤r:=by omega
  have hrj:r<j:=by omega
  have hrY:r<Y.length:=by omega
  have g0:(P++(x::(Y++Q)))[P.length]? = some x:=get_mid rfl
  have g1:(P++(x::(Y++Q)))[P.length+1+r]? = some Y[r]:=by
   rw [List.getElem?_append_right (by omega),show P.length+1+r-P.length=r+1 by omega,List.getElem?_cons_succ,List.getElem?_append_left hrY]
   exact gE hrY
  have hcall:=hc S' _ Y[r] x hA (hY _ (List.getElem_mem hrY)) hxn
  have t1:=srt_take_le hz hs hrY
  have t2:=srt_drop_ge hz hs hrY
  generalize Y[r]=y at g1 hcall t1 t2
  refine goW ?_
  rw [midW (by omega),show (P.length+1+i+(P.length+1+j)) / 2=P.length+1+r by omega]
  refine step_ruleDO rfl rfl (sx_ia (k:=P.length+1+r) rfl rfl (by omega)) (goW ?_)
  refine step_ruleDO rfl rfl (sx_ldEl (agg:=false) rfl (hA.els hx) (ints_get g1) rfl) (goW ?_)
  refine step_ruleDO rfl rfl (sx_ia (k:=P.length) rfl rfl (by omega)) (goW ?_)
  refine step_ruleDO rfl rfl (sx_ldEl (agg:=false) rfl (hA.els hx) (ints_get g0) rfl) (goW ?_)
  refine call_ruleD (by rfl) (hm _ _ _ _ _ hcall ?_)
  rintro r' S3 ⟨rfl,rfl⟩
  refine goW ?_
  by_cases hlt:cz y x<0
  ·rw [dT hlt]
   refine goW ?_
   refine⟨(r+1,j),⟨?_,by simp only;omega,h2,rfl,fun u hu=>ltZ_le hz (t1 u hu) hlt,h4⟩,by simp only;omega⟩
   rw [wrNat (by omega)]
   try rfl
  ·rw [dF hlt]
   refine goW ?_
   refine⟨(i,r),⟨rfl,hri,by simp only;omega,rfl,h3,fun u hu=>?_⟩,by simp only;omega⟩
   exact hz.tr (a:=x) (b:=y) (c:=u) (by omega) (t2 u hu)
 ·rw [dF hij]
  obtain rfl:i=j:=by omega
  clear h1 hij
  refine goW ?_
  refine loop_rule hm (α:=Nat) (fun r env S'=>env=E_m1b t xs (P.length+1+i) (P.length+r)∧r≤i∧ArS S' R ty t b (P++(Y.take r++(x::(Y.drop r++Q))))) (fun r=>i-r) ?_ (a:=0) ⟨rfl,Nat.zero_le _,by simpa using hA⟩
  rintro r env S2 ⟨rfl,hri,hA⟩
  have hxr:xs.length=(P++(Y.take r++(x::(Y.drop r++Q)))).length:=by rw [hx];simp only [lA,lC,lT,lD];omega
  refine goW ?_
  rw [show wr .i64 (((P.length+1+i:Nat):Int)-1)=((P.length+i:Nat):Int) by rw [wr64 (by omega) (by omega)];omega]
  by_cases hlt:((P.length+r:Nat):Int)<((P.length+i:Nat):Int)
  ·rw [dT hlt]
   have hrY:r<Y.length:=by omega
   have hd:Y.drop r=Y[r]::Y.drop (r+1):=dC hrY
   have htk:Y.take (r+1)=Y.take r++[Y[r]]:=tS hrY
   have hltk:(Y.take r).length=r:=by rw [lT];omega
   rw [hd] at hA hxr
   generalize Y[r]=y at hA hxr htk
   clear hd
   have g0:(P++(Y.take r++(x::((y::Y.drop (r+1))++Q))))[P.length+r]? = some x:=by rw [←aA];exact get_mid (by rw [lA];omega)
   have g1:(P++(Y.take r++(x::((y::Y.drop (r+1))++Q))))[P.length+r+1]? = some y:=by
    rw [show P++(Y.take r++(x::((y::Y.drop (r+1))++Q)))=(P++(Y.take r++[x]))++(y::(Y.drop (r+1)++Q)) by simp only [aA,List.cons_append,List.nil_append]]
    exact get_mid (by simp only [lA,lC,List.length_nil];omega)
   have s1:(P++(Y.take r++(x::((y::Y.drop (r+1))++Q)))).set (P.length+r) y=(P++Y.take r)++(y::((y::Y.drop (r+1))++Q)):=by rw [←aA];exact set_mid (by rw [lA];omega)
   have s2:((P++Y.take r)++(y::((y::Y.drop (r+1))++Q))).set (P.length+r+1) x=P++(Y.take (r+1)++(x::(Y.drop (r+1)++Q))):=by
    rw [show (P++Y.take r)++(y::((y::Y.drop (r+1))++Q))=(P++(Y.take r++[y]))++(y::(Y.drop (r+1)++Q)) by simp only [aA,List.cons_append,List.nil_append],set_mid (by simp only [lA,lC,List.length_nil];omega),htk]
    simp only [aA,List.cons_append,List.nil_append]
   have hl1:((P++Y.take r)++(y::((y::Y.drop (r+1))++Q))).length=xs.length:=by rw [←s1,List.length_set,hxr]
   generalize P++(Y.take r++(x::((y::Y.drop (r+1))++Q)))=l at hA g0 g1 s1 hxr
   refine goW ?_
   rw [wrNat (by omega)]
   refine step_ruleDO rfl rfl (sx_ia (k:=P.length+r+1) rfl rfl (by omega)) (goW ?_)
   refine step_ruleDO rfl rfl (sx_ldEl (agg:=false) rfl (hA.els hxr) (ints_get g1) rfl) (goW ?_)
   refine step_ruleDO rfl rfl (sx_ia (k:=P.length+r) rfl rfl (by omega)) (goW ?_)
   refine step_ruleDO rfl rfl (sx_ldEl (agg:=false) rfl (hA.els hxr) (ints_get g0) rfl) (goW ?_)
   refine step_ruleDO rfl rfl (sx_ia (k:=P.length+r) rfl rfl (by omega)) (goW ?_)
   refine st_runPD (hA.st hxr rfl rfl (by omega)) (by trivial) rfl rfl ?_
   intro S4 hA
   rw [s1] at hA
   refine goW ?_
   refine step_ruleDO rfl rfl (sx_ia (k:=P.length+r+1) rfl rfl (by omega)) (goW ?_)
   refine st_runPD (hA.st hl1.symm rfl rfl (by omega)) (by trivial) rfl rfl ?_
   intro S5 hA
   rw [s2] at hA
   refine goW ?_
   refine⟨r+1,⟨?_,by omega,hA⟩,by omega⟩
   rw [wrNat (by omega)]
   try rfl
  ·rw [dF hlt]
   obtain rfl:r=i:=by omega
   refine goW ?_
   refine⟨_,rfl,rfl,Y.take r++(x::Y.drop r),?_,srt_put hs (fun u hu=>hz.asy (h3 u hu)) (fun u hu=>h4 u hu),by simpa only [aA,List.cons_append] using hA⟩
   have:=List.perm_middle (a:=x) (l₁:=Y.take r) (l₂:=Y.drop r)
   rwa [tkD] at this
end

section
variable {gt:GT} {C:CallT} {R:List Rs} {ty:TypeId} {t b:Nat}
abbrev E_m2 (t:Nat) (xs:List AV) (m:Nat) (g:AV) (i j:Nat):Env:=[(0,.val (slA t xs.length xs)),(2,.val (.int .i64 m)),(4,.val g),(14,.val (.int .i64 i)),(15,.val (.int .i64 j))]
abbrev E_m2b (t:Nat) (xs:List AV) (i k:Nat):Env:=[(0,.val (slA t xs.length xs)),(14,.val (.int .i64 i)),(17,.val (.int .i64 k))]
set_option maxHeartbeats 8000000 in
theorem mrg2_wp (hm:MonoC C) {f:FuncId} {cs:List AV} {n:Nat} {cz:Nat→Nat→Int} (hz:Cz cz) (hc:CmpC C f cs R ty t b n cz) {S:St} {xs:List AV} {P Y Q:List Nat} {x:Nat} (hY:∀y∈Y,y<n) (hxn:x<n) (hs:Srt (leZ cz) Y) (h2:2≤Y.length) (hx:xs.length=(P++(Y++(x::Q))).length) (hl:(P++(Y++(x::Q))).length<1152921504606846976) (hA:ArS S R ty t b (P++(Y++(x::Q)))) :
  wpF gt C F109 [slA t xs.length xs,.int .i64 P.length,.int .i64 ((P.length+Y.length:Nat):Int),.int .i64 ((P.length+Y.length+1:Nat):Int),.fn f [] cs] S fun r S'=>r=.ret (.tup [])∧∃Z,Z.Perm (Y++[x])∧Srt (leZ cz) Z∧ArS S' R ty t b (P++(Z++Q)):=by
 have hlen:(P++(Y++(x::Q))).length=P.length+(Y.length+(Q.length+1)):=by simp only [lA,lC]
 rw [hlen] at hl
 refine⟨rfl,?_⟩
 refine goW ?_
 rw [show wr .i64 (((P.length+Y.length:Nat):Int)-(P.length:Int))=(Y.length:Int) by rw [wr64 (by omega) (by omega)];omega,eqI_false (show ¬(Y.length:Int)=1 by omega)]
 refine goW ?_
 rw [show wr .i64 (((P.length+Y.length+1:Nat):Int)-((P.length+Y.length:Nat):Int))=1 by rw [wr64 (by omega) (by omega)];omega]
 refine goW ?_
 refine loop_rule hm (α:=Nat×Nat) (fun a env S'=>env=E_m2 t xs (P.length+Y.length) (.fn f [] cs) (P.length+a.1) (P.length+a.2)∧a.1≤a.2∧a.2≤Y.length∧S'=S∧(∀u∈Y.take a.1,0≤cz x u)∧(∀u∈Y.drop a.2,cz x u<0)) (fun a=>a.2-a.1) ?_ (a:=(0,Y.length)) ⟨rfl,Nat.zero_le _,Nat.le_refl _,rfl,by simp,by simp⟩
 rintro⟨i,j⟩ env S' ⟨rfl,h1,h2',rfl,h3,h4⟩
 simp only at h1 h2' h3 h4
 refine goW ?_
 by_cases hij:((P.length+i:Nat):Int)<((P.length+j:Nat):Int)
 ·rw [dT hij]
  obtain⟨r,hr⟩:∃r,r=(i+j) / 2:=⟨_,rfl⟩
  have hri:i≤r:=by omega
  have hrj:r<j:=by omega
  have hrY:r<Y.length:=by omega
  have g0:(P++(Y++(x::Q)))[P.length+Y.length]? = some x:=by rw [←aA];exact get_mid (by rw [lA])
  have g1:(P++(Y++(x::Q)))[P.length+r]? = some Y[r]:=by
   rw [List.getElem?_append_right (by omega),show P.length+r-P.length=r by omega,List.getElem?_append_left hrY]
   exact gE hrY
  have hcall:=hc S' _ x Y[r] hA hxn (hY _ (List.getElem_mem hrY))
  have t1:=srt_take_le hz hs hrY
  have t2:=srt_drop_ge hz hs hrY
  generalize Y[r]=y at g1 hcall t1 t2
  refine goW ?_
  rw [midW (by omega),show (P.length+i+(P.length+j)) / 2=P.length+r by omega]
  refine step_ruleDO rfl rfl (sx_ia (k:=P.length+Y.length) rfl rfl (by omega)) (goW ?_)
  refine step_ruleDO rfl rfl (sx_ldEl (agg:=false) rfl (hA.els hx) (ints_get g0) rfl) (goW ?_)
  refine step_ruleDO rfl rfl (sx_ia (k:=P.length+r) rfl rfl (by omega)) (goW ?_)
  refine step_ruleDO rfl rfl (sx_ldEl (agg:=false) rfl (hA.els hx) (ints_get g1) rfl) (goW ?_)
  refine call_ruleD (by rfl) (hm _ _ _ _ _ hcall ?_)
  rintro r' S3 ⟨rfl,rfl⟩
  refine goW ?_
  by_cases hlt:cz x y<0
  ·rw [dT hlt]
   refine goW ?_
   refine⟨(i,r),⟨rfl,hri,by simp only;omega,rfl,h3,fun u hu=>?_⟩,by simp only;omega⟩
   rcases Int.lt_or_le (cz x u) 0 with q | q
   ·exact q
   ·have:0≤cz x y:=hz.tr (a:=y) (b:=u) (c:=x) (t2 u hu) q
    omega
  ·rw [dF hlt]
   refine goW ?_
   refine⟨(r+1,j),⟨?_,by simp only;omega,h2',rfl,fun u hu=>?_,h4⟩,by simp only;omega⟩
   ·rw [wrNat (by omega)]
    try rfl
   ·exact hz.tr (a:=u) (b:=y) (c:=x) (t1 u hu) (by omega)
 ·rw [dF hij]
  obtain rfl:i=j:=by omega
  clear h1 hij
  refine goW ?_
  refine loop_rule hm (α:=Nat) (fun r env S'=>env=E_m2b t xs (P.length+i) (P.length+r)∧i≤r∧r≤Y.length∧ArS S' R ty t b (P++(Y.take r++(x::(Y.drop r++Q))))) (fun r=>r) ?_ (a:=Y.length) ⟨rfl,h2',Nat.le_refl _,by simpa using hA⟩
  rintro r env S2 ⟨rfl,hri,hrY,hA⟩
  have hxr:xs.length=(P++(Y.take r++(x::(Y.drop r++Q)))).length:=by rw [hx];simp only [lA,lC,lT,lD];omega
  refine goW ?_
  by_cases hlt:((P.length+r:Nat):Int) > ((P.length+i:Nat):Int)
  ·rw [dT hlt]
   obtain⟨q,rfl⟩:∃q,r=q+1:=⟨r-1,by omega⟩
   have hqY:q<Y.length:=by omega
   have hd:Y.drop q=Y[q]::Y.drop (q+1):=dC hqY
   have htk:Y.take (q+1)=Y.take q++[Y[q]]:=tS hqY
   have hltk:(Y.take q).length=q:=by rw [lT];omega
   rw [htk] at hA hxr
   generalize Y[q]=y at hA hxr hd
   clear htk
   have g0:(P++((Y.take q++[y])++(x::(Y.drop (q+1)++Q))))[P.length+q+1]? = some x:=by
    rw [←aA];exact get_mid (by simp only [lA,lC,List.length_nil];omega)
   have g1:(P++((Y.take q++[y])++(x::(Y.drop (q+1)++Q))))[P.length+q]? = some y:=by
    rw [show P++((Y.take q++[y])++(x::(Y.drop (q+1)++Q)))=(P++Y.take q)++(y::(x::(Y.drop (q+1)++Q))) by simp only [aA,List.cons_append,List.nil_append]]
    exact get_mid (by rw [lA];omega)
   have s1:(P++((Y.take q++[y])++(x::(Y.drop (q+1)++Q)))).set (P.length+q+1) y=(P++Y.take q)++(y::(y::(Y.drop (q+1)++Q))):=by
    rw [←aA,set_mid (by simp only [lA,lC,List.length_nil];omega)]
    simp only [aA,List.cons_append,List.nil_append]
   have s2:((P++Y.take q)++(y::(y::(Y.drop (q+1)++Q)))).set (P.length+q) x=P++(Y.take q++(x::(Y.drop q++Q))):=by
    rw [set_mid (by rw [lA];omega),hd]
    simp only [aA,List.cons_append]
   have hl1:((P++Y.take q)++(y::(y::(Y.drop (q+1)++Q)))).length=xs.length:=by rw [←s1,List.length_set,hxr]
   generalize P++((Y.take q++[y])++(x::(Y.drop (q+1)++Q)))=l at hA g0 g1 s1 hxr
   have w1:wr .i64 (((P.length+(q+1):Nat):Int)-1)=((P.length+q:Nat):Int):=by rw [wr64 (by omega) (by omega)];omega
   refine goW ?_
   rw [w1]
   refine step_ruleDO rfl rfl (sx_ia (k:=P.length+q) rfl rfl (by omega)) (goW ?_)
   refine step_ruleDO rfl rfl (sx_ldEl (agg:=false) rfl (hA.els hxr) (ints_get g1) rfl) (goW ?_)
   refine step_ruleDO rfl rfl (sx_ia (k:=P.length+q+1) rfl rfl (by omega)) (goW ?_)
   refine step_ruleDO rfl rfl (sx_ldEl (agg:=false) rfl (hA.els hxr) (ints_get g0) rfl) (goW ?_)
   refine step_ruleDO rfl rfl (sx_ia (k:=P.length+q+1) rfl rfl (by omega)) (goW ?_)
   refine st_runPD (hA.st hxr rfl rfl (by omega)) (by trivial) rfl rfl ?_
   intro S4 hA
   rw [s1] at hA
   refine goW ?_
   refine step_ruleDO rfl rfl (sx_ia (k:=P.length+q) rfl rfl (by omega)) (goW ?_)
   refine st_runPD (hA.st hl1.symm rfl rfl (by omega)) (by trivial) rfl rfl ?_
   intro S5 hA
   rw [s2] at hA
   refine goW ?_
   refine⟨q,⟨?_,by omega,by omega,hA⟩,by omega⟩
   rw [w1]
  ·rw [dF hlt]
   obtain rfl:r=i:=by omega
   refine goW ?_
   refine⟨_,rfl,rfl,Y.take r++(x::Y.drop r),?_,srt_put hs (fun u hu=>h3 u hu) (fun u hu=>hz.asy (h4 u hu)),by simpa only [aA,List.cons_append] using hA⟩
   have:=List.perm_middle (a:=x) (l₁:=Y.take r) (l₂:=Y.drop r)
   rw [tkD] at this
   exact this.trans (List.perm_append_singleton x Y).symm
end
end Go.Dn
