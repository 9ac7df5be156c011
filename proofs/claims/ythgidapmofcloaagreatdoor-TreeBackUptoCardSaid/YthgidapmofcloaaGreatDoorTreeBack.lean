/- 'emendlaw3.TreeBack' returns true, whatever the tree and the text, where all that is read is of bulk at most 1048576 (the second form); all read afterwards as they did. The statement is the tied card. The functions that the law reaches are walked over abstract code (Dn, the author's small language, proved sound against the model), each once; the law without arguments that it ends with is run by the kernel. -/
import Derived.Test.YthgidapmofcloaaGreatDoorTie
import Derived.Test.YthgidapmofcloaaGreatDoorCards
import Derived.ProofKit
import Derived.LaidMore
import Derived.OpenShut
import Derived.Carry
import Derived.Stop.Joined
import Derived.Lay
import Derived.SevenTiedAt
import Derived.Deep.DeepHandedRow
import Derived.Deep.DeepWitnessRowRef
import Derived.Test.YthgidapmofcloaaGreatDoorWp
set_option linter.unusedSimpArgs false
set_option linter.unusedVariables false
namespace Go.Proofs.YthgidapmofcloaaGreatDoor.TreeBack
open Go.ChangeShapes Go.WideShapes Go.ChangeAt Go.RowKit Go.Dn Go.Proofs.YthgidapmofcloaaGreatDoor.Fn
theorem named:Tryz.prog.funcNamed Rows.treeBackUptoRow.func=some 10:=by kernel_rfl
theorem joined:joinedFacts Tryz.prog 10 Tryz.f10 (Rows.OpenSpec.upto Rows.treeBackSpec).bare Rows.treeBackUptoRow=true:=by kernel_rfl
theorem inst:Tryz.f10.isInstance Tryz.prog Rows.treeBackUptoRow.origin Rows.treeBackUptoRow.targs:=of_decide_eq_true (by kernel_rfl)
theorem wrapper:Tryz.f10.isWrapper Tryz.prog Rows.treeBackUptoRow.wrapper Rows.treeBackUptoRow.mainSum:=by unfold Func.isWrapper;first | (rw[if_pos (by decide +kernel)];kernel_rfl) | (rw[if_neg (by decide +kernel)];exact⟨rfl,rfl⟩)
theorem lifted2 (os:Os)(started:os.Started)(H:Type)(enc:TypeId×Value->H)(F:Stop.Interp):ReturnsInHanded Rows.treeBackUptoRow.assume Tryz.checked os 10 .any (Rows.treeBackUptoRow.pre enc Tryz.prog Tryz.f10 (Rows.OpenSpec.upto Rows.treeBackSpec))
  (((Rows.OpenSpec.upto Rows.treeBackSpec).at F).post enc Tryz.prog Tryz.f10 Rows.treeBackUptoRow.apart Rows.treeBackUptoRow.fresh Rows.treeBackUptoRow.handsOn Rows.treeBackUptoRow.again):=by
 rw[OpenClaim.pre_eq_preRow];exact lifted os started H enc F
theorem row:Rows.TreeBackUptoSaid :=
 OpenClaim.holds_of_cond 10 Tryz.f10 rfl rfl rfl rfl rfl rfl rfl ⟨rfl,rfl,rfl,rfl,rfl⟩ rfl rfl rfl rfl rfl named Tryz.func10 joined inst wrapper
  (λos started H enc _ F=>lifted2 os started H enc F)
theorem proved:Rows.TreeBackUptoCardSaid :=
 Claim7.holds_tied_plain_at .later [] _ _ _ _ row (λ_ h=>by cases h) (by kernel_rfl) (λ_ h=>by cases h)
  treeBackUpto_row_tie rfl ⟨rfl,rfl⟩ (by kernel_rfl) rfl
  (λf fn h1 h2=>by
   obtain rfl:f=10:=Option.some.inj (h1.symm.trans (by kernel_rfl));obtain rfl:fn=Tryz.f10:=Option.some.inj (h2.symm.trans Tryz.func10);refine⟨by kernel_rfl,λj t hj=>?_⟩;rw[Tryz.params10]at hj
   match j,hj with
   | 0,hj=>cases hj;exact wantsT
   | 1,hj=>cases hj;exact wantsK
   | _+2,hj=>cases hj)
  (by kernel_rfl)
#print axioms proved
end Go.Proofs.YthgidapmofcloaaGreatDoor.TreeBack
