/- 'emendlaw3.TreeParses' returns true, whatever the text and the number; they read afterwards as they did. The statement is the tied card. The functions that the law reaches are walked over abstract code (Dn, the author's small language, proved sound against the model), each once; the law without arguments that it ends with is run by the kernel. -/
import Derived.Test.YthgidapmofcloaaGreatDoorTie
import Derived.Test.YthgidapmofcloaaGreatDoorCards
import Derived.ProofKit
import Derived.LaidMore
import Derived.OpenShut
import Derived.Carry
import Derived.Stop.Joined
import Derived.Lay
import Derived.SevenTiedAt
import Derived.Deep.DeepHandedRow
import Derived.Deep.DeepWitnessRowRef
import Derived.Test.YthgidapmofcloaaGreatDoorQp
set_option linter.unusedSimpArgs false
set_option linter.unusedVariables false
namespace Go.Proofs.YthgidapmofcloaaGreatDoor.TreeParses
open Go.ChangeShapes Go.WideShapes Go.ChangeAt Go.RowKit Go.Dn Go.Proofs.YthgidapmofcloaaGreatDoor.Fn
theorem named:Tryz.prog.funcNamed Rows.treeParsesRow.func=some 9:=by kernel_rfl
theorem joined:joinedFacts Tryz.prog 9 Tryz.f9 Rows.treeParsesSpec Rows.treeParsesRow=true:=by kernel_rfl
theorem inst:Tryz.f9.isInstance Tryz.prog Rows.treeParsesRow.origin Rows.treeParsesRow.targs:=of_decide_eq_true (by kernel_rfl)
theorem wrapper:Tryz.f9.isWrapper Tryz.prog Rows.treeParsesRow.wrapper Rows.treeParsesRow.mainSum:=by unfold Func.isWrapper;first | (rw[if_pos (by decide +kernel)];kernel_rfl) | (rw[if_neg (by decide +kernel)];exact⟨rfl,rfl⟩)
theorem row:Rows.TreeParsesSaid :=
 OpenClaim.holds_of_wide 9 Tryz.f9 rfl rfl rfl rfl rfl rfl rfl ⟨rfl,rfl,rfl,rfl,rfl⟩ rfl rfl rfl rfl rfl named Tryz.func9 joined inst wrapper
  (λos started H enc _=>lifted os started H enc)
theorem proved:Rows.TreeParsesCardSaid :=
 Claim7.holds_tied_plain_at .later [] [.data,.data,.data,.data,.handle,.sentinel,.sentinel,.pinned] true _ true row (λ_ h=>by cases h) (by kernel_rfl) (λ_ h=>by cases h)
  treeParses_row_tie rfl ⟨rfl,rfl⟩ (by kernel_rfl) (by decide)
  (λf fn h1 h2=>by
   obtain rfl:f=9:=Option.some.inj (h1.symm.trans (by kernel_rfl));obtain rfl:fn=Tryz.f9:=Option.some.inj (h2.symm.trans Tryz.func9);refine⟨by kernel_rfl,λj t hj=>?_⟩;rw[Tryz.params9]at hj
   match j,hj with
   | 0,hj=>cases hj;exact wantsK
   | 1,hj=>cases hj;exact wantsM
   | _+2,hj=>cases hj)
  (by kernel_rfl)
#print axioms proved
end Go.Proofs.YthgidapmofcloaaGreatDoor.TreeParses
