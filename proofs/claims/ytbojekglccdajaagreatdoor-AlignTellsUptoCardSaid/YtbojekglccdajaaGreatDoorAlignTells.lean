/- 'emendlaw13.AlignTells' returns true, whatever the lists, the text and the number, where all that is read is of bulk at most 1048576 (the second form); all read afterwards as they did. The statement is the tied card. The functions that the law reaches are walked over abstract code (Dn, the author's small language, proved sound against the model), each once; the law without arguments that it ends with is run by the kernel. -/
import Derived.Test.YtbojekglccdajaaGreatDoorTie
import Derived.Test.YtbojekglccdajaaGreatDoorCards
import Derived.ProofKit
import Derived.LaidMore
import Derived.OpenShut
import Derived.Carry
import Derived.Stop.Joined
import Derived.Lay
import Derived.SevenTiedAt
import Derived.Deep.DeepHandedRow
import Derived.Deep.DeepWitnessRowRef
import Derived.Test.YtbojekglccdajaaGreatDoorIp
set_option linter.unusedSimpArgs false
set_option linter.unusedVariables false
namespace Go.Proofs.YtbojekglccdajaaGreatDoor.AlignTells
open Go.ChangeShapes Go.WideShapes Go.ChangeAt Go.RowKit Go.Dn Go.Proofs.YtbojekglccdajaaGreatDoor.Fn
theorem named:Tryz.prog.funcNamed Rows.alignTellsUptoRow.func=some 4:=by kernel_rfl
theorem joined:joinedFacts Tryz.prog 4 Tryz.f4 (Rows.OpenSpec.upto Rows.alignTellsSpec).bare Rows.alignTellsUptoRow=true:=by kernel_rfl
theorem inst:Tryz.f4.isInstance Tryz.prog Rows.alignTellsUptoRow.origin Rows.alignTellsUptoRow.targs:=of_decide_eq_true (by kernel_rfl)
theorem wrapper:Tryz.f4.isWrapper Tryz.prog Rows.alignTellsUptoRow.wrapper Rows.alignTellsUptoRow.mainSum:=by unfold Func.isWrapper;first | (rw[if_pos (by decide +kernel)];kernel_rfl) | (rw[if_neg (by decide +kernel)];exact⟨rfl,rfl⟩)
theorem lifted2 (os:Os)(started:os.Started)(H:Type)(enc:TypeId×Value->H)(F:Stop.Interp):ReturnsInHanded Rows.alignTellsUptoRow.assume Tryz.checked os 4 .any (Rows.alignTellsUptoRow.pre enc Tryz.prog Tryz.f4 (Rows.OpenSpec.upto Rows.alignTellsSpec))
  (((Rows.OpenSpec.upto Rows.alignTellsSpec).at F).post enc Tryz.prog Tryz.f4 Rows.alignTellsUptoRow.apart Rows.alignTellsUptoRow.fresh Rows.alignTellsUptoRow.handsOn Rows.alignTellsUptoRow.again):=by
 rw[OpenClaim.pre_eq_preRow];exact lifted os started H enc F
theorem row:Rows.AlignTellsUptoSaid :=
 OpenClaim.holds_of_cond 4 Tryz.f4 rfl rfl rfl rfl rfl rfl rfl ⟨rfl,rfl,rfl,rfl,rfl⟩ rfl rfl rfl rfl rfl named Tryz.func4 joined inst wrapper
  (λos started H enc _ F=>lifted2 os started H enc F)
theorem proved:Rows.AlignTellsUptoCardSaid :=
 Claim7.holds_tied_plain_at .later [] _ _ _ _ row (λ_ h=>by cases h) (by kernel_rfl) (λ_ h=>by cases h)
  alignTellsUpto_row_tie rfl ⟨rfl,rfl⟩ (by kernel_rfl) rfl
  (λf fn h1 h2=>by
   obtain rfl:f=4:=Option.some.inj (h1.symm.trans (by kernel_rfl));obtain rfl:fn=Tryz.f4:=Option.some.inj (h2.symm.trans Tryz.func4);refine⟨by kernel_rfl,λj t hj=>?_⟩;rw[Tryz.params4]at hj
   match j,hj with
   | 0,hj=>cases hj;exact wantsL
   | 1,hj=>cases hj;exact wantsL
   | 2,hj=>cases hj;exact wantsK
   | 3,hj=>cases hj;exact wantsM
   | _+4,hj=>cases hj)
  (by kernel_rfl)
#print axioms proved
end Go.Proofs.YtbojekglccdajaaGreatDoor.AlignTells
