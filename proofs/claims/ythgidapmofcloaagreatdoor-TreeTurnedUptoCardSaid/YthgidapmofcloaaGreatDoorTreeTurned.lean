/- 'emendlaw3.TreeTurned' returns true, whatever the tree and the places, where all that is read is of bulk at most 1048576 (the second form); all read afterwards as they did. The statement is the tied card. The functions that the law reaches are walked over abstract code (Dn, the author's small language, proved sound against the model), each once; the law without arguments that it ends with is run by the kernel. -/
import Derived.Test.YthgidapmofcloaaGreatDoorTie
import Derived.Test.YthgidapmofcloaaGreatDoorCards
import Derived.ProofKit
import Derived.LaidMore
import Derived.OpenShut
import Derived.Carry
import Derived.Stop.Joined
import Derived.Lay
import Derived.SevenTiedAt
import Derived.Deep.DeepHandedRow
import Derived.Deep.DeepWitnessRowRef
import Derived.Test.YthgidapmofcloaaGreatDoorUp
set_option linter.unusedSimpArgs false
set_option linter.unusedVariables false
namespace Go.Proofs.YthgidapmofcloaaGreatDoor.TreeTurned
open Go.ChangeShapes Go.WideShapes Go.ChangeAt Go.RowKit Go.Dn Go.Proofs.YthgidapmofcloaaGreatDoor.Fn
theorem named:Tryz.prog.funcNamed Rows.treeTurnedUptoRow.func=some 13:=by kernel_rfl
theorem joined:joinedFacts Tryz.prog 13 Tryz.f13 (Rows.OpenSpec.upto Rows.treeTurnedSpec).bare Rows.treeTurnedUptoRow=true:=by kernel_rfl
theorem inst:Tryz.f13.isInstance Tryz.prog Rows.treeTurnedUptoRow.origin Rows.treeTurnedUptoRow.targs:=of_decide_eq_true (by kernel_rfl)
theorem wrapper:Tryz.f13.isWrapper Tryz.prog Rows.treeTurnedUptoRow.wrapper Rows.treeTurnedUptoRow.mainSum:=by unfold Func.isWrapper;first | (rw [if_pos (by decide +kernel)];kernel_rfl) | (rw [if_neg (by decide +kernel)];exact⟨rfl,rfl⟩)
theorem lifted2 (os:Os) (started:os.Started) (H:Type) (enc:TypeId×Value→H) (F:Stop.Interp):ReturnsInHanded Rows.treeTurnedUptoRow.assume Tryz.checked os 13 .any (Rows.treeTurnedUptoRow.pre enc Tryz.prog Tryz.f13 (Rows.OpenSpec.upto Rows.treeTurnedSpec))
  (((Rows.OpenSpec.upto Rows.treeTurnedSpec).at F).post enc Tryz.prog Tryz.f13 Rows.treeTurnedUptoRow.apart Rows.treeTurnedUptoRow.fresh Rows.treeTurnedUptoRow.handsOn Rows.treeTurnedUptoRow.again):=by
 rw [OpenClaim.pre_eq_preRow];exact lifted os started H enc F
theorem row:Rows.TreeTurnedUptoSaid :=
 OpenClaim.holds_of_cond 13 Tryz.f13 rfl rfl rfl rfl rfl rfl rfl ⟨rfl,rfl,rfl,rfl,rfl⟩ rfl rfl rfl rfl rfl named Tryz.func13 joined inst wrapper
  (fun os started H enc _ F=>lifted2 os started H enc F)
theorem proved:Rows.TreeTurnedUptoCardSaid :=
 Claim7.holds_tied_plain_at .later [] _ _ _ _ row (fun _ h=>by cases h) (by kernel_rfl) (fun _ h=>by cases h)
  treeTurnedUpto_row_tie rfl ⟨rfl,rfl⟩ (by kernel_rfl) rfl
  (fun f fn h1 h2=>by
   obtain rfl:f=13:=Option.some.inj (h1.symm.trans (by kernel_rfl))
   obtain rfl:fn=Tryz.f13:=Option.some.inj (h2.symm.trans Tryz.func13)
   refine⟨by kernel_rfl,fun j t hj=>?_⟩
   rw [Tryz.params13] at hj
   match j,hj with
   | 0,hj=>cases hj;exact wantsT
   | 1,hj=>cases hj;exact wantsI
   | _+2,hj=>cases hj)
  (by kernel_rfl)
#print axioms proved
end Go.Proofs.YthgidapmofcloaaGreatDoor.TreeTurned
