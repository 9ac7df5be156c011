/- 'emendlaw5.JsonRuns' returns true, whatever the input (it takes none); what was there reads as it did. The statement is the tied card. The program's code, compiled into a small language of the author's (Dn, proved sound against the model), is run by the kernel to its end. -/
import Derived.Test.YtinhgnepnkbpcaaGreatDoorTie
import Derived.Test.YtinhgnepnkbpcaaGreatDoorCards
import Derived.Test.YtinhgnepnkbpcaaGreatDoorLaid
import Derived.ProofKit
import Derived.LaidMore
import Derived.OpenShut
import Derived.Stop.Joined
import Derived.Lay
import Derived.SevenTiedAt
namespace Go.Proofs.YtinhgnepnkbpcaaGreatDoor.JsonRuns
open Go.ChangeShapes Go.WideShapes Go.ChangeAt Go.RowKit

set_option maxRecDepth 100000 in
theorem lifted (os : Os) (started : os.Started) (H : Type) (enc : TypeId × Value → H) :
    ReturnsInHanded {} Tryz.checked os 3 .any (fun w args => (Rows.jsonRunsSpec.pre enc Tryz.prog Tryz.f3 [] false w args ∧ laidMetH Tryz.prog Rows.jsonRunsRow.laid w) ∧ sizedMet enc Tryz.prog Tryz.f3 (OpenSpec.ofChange Rows.jsonRunsSpec) false w args)
      (Rows.jsonRunsSpec.post enc Tryz.prog Tryz.f3 false true false false) := by
  refine returnsInHanded_of_change_and (C := Tryz.checked) (X := fun w _ => laidMetH Tryz.prog Rows.jsonRunsRow.laid w) (fun _ _ _ hh h => h.of_heap hh) own started (by kernel_rfl) Tryz.func3
    (ChangeSpec.witness_shaped (enc := enc) (C := Tryz.checked) (os := os) (X := fun w _ => laidMetH Tryz.prog Rows.jsonRunsRow.laid w) false (laidW os) #[] 8 (laidW_os _)
      (World.shaped_of_ZipB (by kernel_rfl) (by kernel_rfl)) (by kernel_rfl) (by kernel_rfl) (by kernel_rfl)
      (laidW_met os _)) ?_
  intro W base args ds gs before hval0 hW _ _ hL _
  have hW' := hW
  obtain ⟨p, q, hA0, hV, rfl, hfz, hnd⟩ := hW
  have hA : DataW.TrodAll enc Tryz.prog W 0 (fun _ => true) true Tryz.f3.params.toList args.toList ds p := hA0
  rw [Tryz.params3] at hA
  obtain ⟨rfl, rfl, rfl⟩ := trodAll_none hA
  obtain ⟨rfl, rfl⟩ := trodVars_none hV
  clear hA0 hval0
  simp only [List.append_nil] at hW'
  refine (runs hL).mono fun e W' ⟨he, bel⟩ => ?_
  subst he
  exact ⟨_, rfl, _, _, _, [], _, [], hW', trodAll_mk1 (shut_bool Tryz.underlying4 _), trodAll_mk0, rfl, bel.frame _, fun h => by cases h⟩

theorem row : Rows.JsonRunsSaid :=
  OpenClaim.holds_of_wide 3 Tryz.f3 rfl rfl rfl rfl rfl rfl rfl ⟨rfl, rfl, rfl, rfl, rfl⟩ rfl rfl rfl rfl rfl (by kernel_rfl) Tryz.func3 (by kernel_rfl)
    (of_decide_eq_true (by kernel_rfl)) (by unfold Func.isWrapper; first | (rw [if_pos (by decide +kernel)]; kernel_rfl) | (rw [if_neg (by decide +kernel)]; exact ⟨rfl, rfl⟩))
    (fun os started H enc _ => lifted os started H enc)

/-- THE STATEMENT -/
theorem proved : Rows.JsonRunsCardSaid :=
  Claim7.holds_tied_plain_at .later [] [.data, .data, .data, .data, .handle, .sentinel, .sentinel, .pinned] true _ true row (fun _ h => by cases h) (by kernel_rfl) (fun _ h => by cases h)
    jsonRuns_row_tie rfl ⟨rfl, rfl⟩ (by kernel_rfl) (by decide)
    (fun f fn h1 h2 => by
      obtain rfl : f = 3 := Option.some.inj (h1.symm.trans (by kernel_rfl))
      obtain rfl : fn = Tryz.f3 := Option.some.inj (h2.symm.trans Tryz.func3)
      refine ⟨by kernel_rfl, fun j t hj => ?_⟩
      rw [Tryz.params3] at hj
      simp at hj)
    (by kernel_rfl)
#print axioms proved
end Go.Proofs.YtinhgnepnkbpcaaGreatDoor.JsonRuns
