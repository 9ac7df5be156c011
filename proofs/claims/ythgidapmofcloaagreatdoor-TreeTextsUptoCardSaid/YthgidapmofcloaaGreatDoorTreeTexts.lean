/- 'emendlaw3.TreeTexts' returns true, whatever the tree, where all that is read is of bulk at most 1048576 (the second form); all read afterwards as they did. The statement is the tied card. The functions that the law reaches are walked over abstract code (Dn, the author's small language, proved sound against the model), each once; the law without arguments that it ends with is run by the kernel. -/
import Derived.Test.YthgidapmofcloaaGreatDoorTie
import Derived.Test.YthgidapmofcloaaGreatDoorCards
import Derived.ProofKit
import Derived.LaidMore
import Derived.OpenShut
import Derived.Carry
import Derived.Stop.Joined
import Derived.Lay
import Derived.SevenTiedAt
import Derived.Deep.DeepHandedRow
import Derived.Deep.DeepWitnessRowRef
import Derived.Test.YthgidapmofcloaaGreatDoorXp
set_option linter.unusedSimpArgs false
set_option linter.unusedVariables false
namespace Go.Proofs.YthgidapmofcloaaGreatDoor.TreeTexts
open Go.ChangeShapes Go.WideShapes Go.ChangeAt Go.RowKit Go.Dn Go.Proofs.YthgidapmofcloaaGreatDoor.Fn
theorem named:Tryz.prog.funcNamed Rows.treeTextsUptoRow.func=some 8:=by kernel_rfl
theorem joined:joinedFacts Tryz.prog 8 Tryz.f8 (Rows.OpenSpec.upto Rows.treeTextsSpec).bare Rows.treeTextsUptoRow=true:=by kernel_rfl
theorem inst:Tryz.f8.isInstance Tryz.prog Rows.treeTextsUptoRow.origin Rows.treeTextsUptoRow.targs:=of_decide_eq_true (by kernel_rfl)
theorem wrapper:Tryz.f8.isWrapper Tryz.prog Rows.treeTextsUptoRow.wrapper Rows.treeTextsUptoRow.mainSum:=by unfold Func.isWrapper;first | (rw [if_pos (by decide +kernel)];kernel_rfl) | (rw [if_neg (by decide +kernel)];exact⟨rfl,rfl⟩)
theorem lifted2 (os:Os) (started:os.Started) (H:Type) (enc:TypeId×Value→H) (F:Stop.Interp):ReturnsInHanded Rows.treeTextsUptoRow.assume Tryz.checked os 8 .any (Rows.treeTextsUptoRow.pre enc Tryz.prog Tryz.f8 (Rows.OpenSpec.upto Rows.treeTextsSpec))
  (((Rows.OpenSpec.upto Rows.treeTextsSpec).at F).post enc Tryz.prog Tryz.f8 Rows.treeTextsUptoRow.apart Rows.treeTextsUptoRow.fresh Rows.treeTextsUptoRow.handsOn Rows.treeTextsUptoRow.again):=by
 rw [OpenClaim.pre_eq_preRow];exact lifted os started H enc F
theorem row:Rows.TreeTextsUptoSaid :=
 OpenClaim.holds_of_cond 8 Tryz.f8 rfl rfl rfl rfl rfl rfl rfl ⟨rfl,rfl,rfl,rfl,rfl⟩ rfl rfl rfl rfl rfl named Tryz.func8 joined inst wrapper
  (fun os started H enc _ F=>lifted2 os started H enc F)
theorem proved:Rows.TreeTextsUptoCardSaid :=
 Claim7.holds_tied_plain_at .later [] _ _ _ _ row (fun _ h=>by cases h) (by kernel_rfl) (fun _ h=>by cases h)
  treeTextsUpto_row_tie rfl ⟨rfl,rfl⟩ (by kernel_rfl) rfl
  (fun f fn h1 h2=>by
   obtain rfl:f=8:=Option.some.inj (h1.symm.trans (by kernel_rfl))
   obtain rfl:fn=Tryz.f8:=Option.some.inj (h2.symm.trans Tryz.func8)
   refine⟨by kernel_rfl,fun j t hj=>?_⟩
   rw [Tryz.params8] at hj
   match j,hj with
   | 0,hj=>cases hj;exact wantsT
   | _+1,hj=>cases hj)
  (by kernel_rfl)
#print axioms proved
end Go.Proofs.YthgidapmofcloaaGreatDoor.TreeTexts
