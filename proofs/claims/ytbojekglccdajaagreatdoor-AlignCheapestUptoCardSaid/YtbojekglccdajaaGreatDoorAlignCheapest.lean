/- 'emendlaw13.AlignCheapest' returns true, whatever the lists and the numbers, where all that is read is of bulk at most 1048576 (the second form); all read afterwards as they did. The statement is the tied card. The functions that the law reaches are walked over abstract code (Dn, the author's small language, proved sound against the model), each once; the law without arguments that it ends with is run by the kernel. -/
import Derived.Test.YtbojekglccdajaaGreatDoorTie
import Derived.Test.YtbojekglccdajaaGreatDoorCards
import Derived.ProofKit
import Derived.LaidMore
import Derived.OpenShut
import Derived.Carry
import Derived.Stop.Joined
import Derived.Lay
import Derived.SevenTiedAt
import Derived.Deep.DeepHandedRow
import Derived.Deep.DeepWitnessRowRef
import Derived.Test.YtbojekglccdajaaGreatDoorFo
set_option linter.unusedSimpArgs false
set_option linter.unusedVariables false
namespace Go.Proofs.YtbojekglccdajaaGreatDoor.AlignCheapest
open Go.ChangeShapes Go.WideShapes Go.ChangeAt Go.RowKit Go.Dn Go.Proofs.YtbojekglccdajaaGreatDoor.Fn
theorem named:Tryz.prog.funcNamed Rows.alignCheapestUptoRow.func=some 6:=by kernel_rfl
theorem joined:joinedFacts Tryz.prog 6 Tryz.f6 (Rows.OpenSpec.upto Rows.alignCheapestSpec).bare Rows.alignCheapestUptoRow=true:=by kernel_rfl
theorem inst:Tryz.f6.isInstance Tryz.prog Rows.alignCheapestUptoRow.origin Rows.alignCheapestUptoRow.targs:=of_decide_eq_true (by kernel_rfl)
theorem wrapper:Tryz.f6.isWrapper Tryz.prog Rows.alignCheapestUptoRow.wrapper Rows.alignCheapestUptoRow.mainSum:=by unfold Func.isWrapper;first | (rw [if_pos (by decide +kernel)];kernel_rfl) | (rw [if_neg (by decide +kernel)];exact⟨rfl,rfl⟩)
theorem lifted2 (os:Os) (started:os.Started) (H:Type) (enc:TypeId×Value→H) (F:Stop.Interp):ReturnsInHanded Rows.alignCheapestUptoRow.assume Tryz.checked os 6 .any (Rows.alignCheapestUptoRow.pre enc Tryz.prog Tryz.f6 (Rows.OpenSpec.upto Rows.alignCheapestSpec))
  (((Rows.OpenSpec.upto Rows.alignCheapestSpec).at F).post enc Tryz.prog Tryz.f6 Rows.alignCheapestUptoRow.apart Rows.alignCheapestUptoRow.fresh Rows.alignCheapestUptoRow.handsOn Rows.alignCheapestUptoRow.again):=by
 rw [OpenClaim.pre_eq_preRow];exact lifted os started H enc F
theorem row:Rows.AlignCheapestUptoSaid :=
 OpenClaim.holds_of_cond 6 Tryz.f6 rfl rfl rfl rfl rfl rfl rfl ⟨rfl,rfl,rfl,rfl,rfl⟩ rfl rfl rfl rfl rfl named Tryz.func6 joined inst wrapper
  (fun os started H enc _ F=>lifted2 os started H enc F)
theorem proved:Rows.AlignCheapestUptoCardSaid :=
 Claim7.holds_tied_plain_at .later [] _ _ _ _ row (fun _ h=>by cases h) (by kernel_rfl) (fun _ h=>by cases h)
  alignCheapestUpto_row_tie rfl ⟨rfl,rfl⟩ (by kernel_rfl) rfl
  (fun f fn h1 h2=>by
   obtain rfl:f=6:=Option.some.inj (h1.symm.trans (by kernel_rfl))
   obtain rfl:fn=Tryz.f6:=Option.some.inj (h2.symm.trans Tryz.func6)
   refine⟨by kernel_rfl,fun j t hj=>?_⟩
   rw [Tryz.params6] at hj
   match j,hj with
   | 0,hj=>cases hj;exact wantsL
   | 1,hj=>cases hj;exact wantsL
   | 2,hj=>cases hj;exact wantsI
   | _+3,hj=>cases hj)
  (by kernel_rfl)
#print axioms proved
end Go.Proofs.YtbojekglccdajaaGreatDoor.AlignCheapest
