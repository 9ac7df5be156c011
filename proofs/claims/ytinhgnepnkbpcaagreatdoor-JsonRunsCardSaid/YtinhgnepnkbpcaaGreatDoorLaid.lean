/- What the listed variables give: 'errors.errorType' holds the handle of the type 'error'; a world that meets the condition; the law without arguments, run by the kernel. -/
import Derived.Test.YtinhgnepnkbpcaaGreatDoorTie
import Derived.Test.YtinhgnepnkbpcaaGreatDoorCards
import Derived.Test.YtinhgnepnkbpcaaGreatDoorCodeTab
import Derived.Test.YtinhgnepnkbpcaaGreatDoorPrims2
import Derived.ProofKit
import Derived.LaidMore
import Derived.LaidHandle
import Derived.Lib.LaidTab
import Derived.Stop.LaidErr
import Derived.OpenShut
import Derived.Stop.Joined
import Derived.Lay
import Derived.SevenTiedAt
namespace Go.Proofs.YtinhgnepnkbpcaaGreatDoor
open Go.ChangeShapes Go.WideShapes Go.ChangeAt Go.RowKit

abbrev laid : List (String × DataW Unit) := Rows.jsonRunsRow.laid

theorem own : ownKnob Tryz.prog.godebug = none := by kernel_rfl
theorem globET : Tryz.prog.globalNamed "errors.errorType" = some 0 := by kernel_rfl
theorem rtypeIs : (Tryz.prog.cutTypes.find? (·.1 == "internal/reflectlite.rtype")).map (·.2) = some 149 := by kernel_rfl
theorem oneRow : ((List.range 289).filter fun t => Tryz.prog.rowNamed t [101, 114, 114, 111, 114]) = [30] := by kernel_rfl
theorem typesSize : Tryz.prog.types.size = 289 := by kernel_rfl

/-- WHAT THE CONDITION GIVES A WALK. -/
theorem handle_of_laid {W : World} (h : laidMetH Tryz.prog laid W) : W.var? Tryz.prog "errors.errorType" = some #[.iface 149 (.agg #[.pointer (some ⟨9, 30, none⟩)])] := by
  have h' : laidMet Tryz.prog (laid.filter fun x => x.2.handleName?.isNone) W ∧ handlesMet Tryz.prog [("errors.errorType", Rows.laid_errors_errorType)] W := h
  obtain ⟨name, u, ty, e1, e2, e3, e4, e5⟩ := h'.2 _ (List.mem_singleton.2 rfl)
  have en : name = [101, 114, 114, 111, 114] := (Option.some.inj e1).symm
  subst en
  obtain rfl := Option.some.inj (rtypeIs.symm.trans e2)
  have hm : ty ∈ (List.range 289).filter fun t => Tryz.prog.rowNamed t [101, 114, 114, 111, 114] := List.mem_filter.2 ⟨List.mem_range.2 (by rw [← typesSize]; exact e3), e4⟩
  rw [oneRow] at hm
  obtain rfl := List.mem_singleton.1 hm
  have hh : typeHandle Tryz.prog 30 = .pointer (some ⟨9, 30, none⟩) := by kernel_rfl
  rw [hh] at e5
  exact e5

theorem globPow : Tryz.prog.globalNamed "internal/strconv.uint64pow10" = some 2 := by kernel_rfl
theorem typePow : (Tryz.prog.globals[2]?).map (·.type) = some 229 := by kernel_rfl
theorem undPow : Tryz.prog.underlying 229 = some (.array 20 211) := by kernel_rfl
theorem undU64 : Tryz.prog.underlying 211 = some (.int .u64) := by kernel_rfl

theorem pow_of_laid {W : World} (h : laidMetH Tryz.prog laid W) : Lib.TabIs Tryz.prog W "internal/strconv.uint64pow10" .u64 pows := by
  have h' : laidMet Tryz.prog (laid.filter fun x => x.2.handleName?.isNone) W ∧ handlesMet Tryz.prog [("errors.errorType", Rows.laid_errors_errorType)] W := h
  exact Lib.tabIs_of_head globPow typePow undPow undU64 (by kernel_rfl) (by kernel_rfl) (laidMet.tail (laidMet.tail h'.1))

theorem inv_of_laid {W : World} (h : laidMetH Tryz.prog laid W) : Dn.Inv Tryz.prog gtT Dn.St.init (Dn.G0 W) W := by
  refine Dn.inv0g fun g cs hg => ?_
  rw [Dn.lk_cons] at hg
  by_cases e : 2 = g
  · rw [if_pos e] at hg
    subst e
    cases hg
    have hv := pow_of_laid h
    simp only [Lib.TabIs, World.var?, globPow, Option.bind_some] at hv
    split at hv
    · rename_i c ty fr hw
      cases hv
      refine ⟨_, ty, fr, hw, ?_⟩
      rw [powsA_eq]
      generalize pows = l
      induction l with
      | nil => exact Dn.Rl.nil
      | cons a r ih => exact Dn.Rl.cons (by simp only [Dn.Rv]) ih
    · cases hv
  · rw [if_neg e, Dn.lk_cons] at hg
    by_cases e0 : 0 = g
    · rw [if_pos e0] at hg
      subst e0
      cases hg
      have hv := handle_of_laid h
      simp only [World.var?, globET, Option.bind_some] at hv
      split at hv
      · rename_i c ty fr hw
        cases hv
        refine ⟨_, ty, fr, hw, Dn.Rl.single ?_⟩
        simp only [Dn.Rv]
        exact ⟨trivial, rfl⟩
      · cases hv
    · rw [if_neg e0] at hg
      cases hg

/-- the settled world, the variable's cell laid -/
noncomputable def handW (os : Os) : World :=
  { World.holding Tryz.prog os ⟨#[], #[], []⟩ with heap := (World.holding Tryz.prog os ⟨#[], #[], []⟩).heap.modify 0 fun
      | .cells _ t frozen => .cells #[.iface 149 (.agg #[.pointer (some ⟨9, 30, none⟩)])] t frozen
      | o => o }

abbrev plain : List (String × DataW Unit) := laid.filter fun x => x.2.handleName?.isNone

/-- A world that meets the condition. -/
noncomputable def laidW (os : Os) : World := (handW os).layVars Tryz.prog plain

theorem laidW_os (os : Os) : (laidW os).os = os := World.layVars_os _ _ _

theorem laidW_fits (os : Os) : (handW os).layFits Tryz.prog plain [] = true := by kernel_rfl
theorem laidW_ifaces (os : Os) : (handW os).layIfaces Tryz.prog plain (laidW os) = true := by kernel_rfl
theorem laidW_hand (os : Os) : (laid.filter fun x => x.2.handleName?.isSome).all (handleAtB Tryz.prog (laidW os)) = true := by kernel_rfl

theorem laidW_met (os : Os) (args : Array Value) : laidMetH Tryz.prog laid ((laidW os).forCall (fun _ _ => 0) ⟨#[], args, []⟩).memory := by
  have e1 : (plain.filter fun x => (plain.map (·.1)).contains x.1) = plain := List.filter_eq_self.2 fun x hx => List.contains_iff_mem.2 (List.mem_map.2 ⟨x, hx, rfl⟩)
  have e2 : (plain.filter fun x => !(plain.map (·.1)).contains x.1) = [] := List.filter_eq_nil_iff.2 fun x hx => by rw [List.contains_iff_mem.2 (List.mem_map.2 ⟨x, hx, rfl⟩)]; simp
  have h : laidMet Tryz.prog plain (laidW os) := laidMet_layVars (w0 := handW os) (plain.map (·.1)) [] (by rw [e1]; rfl) (by rw [e1]; exact laidW_fits os) (by rw [e1]; exact laidW_ifaces os) (by rw [e2]; exact LaidIn.none)
  have h2 : laidMetH Tryz.prog laid (laidW os) := laidMetH_of_parts h (laidW_hand os)
  exact h2.of_heap (by simp [World.memory, World.forCall, Input.heap])

set_option maxRecDepth 1000000 in
theorem ran : Dn.exec2 gtT (fun f => Dn.lk [(30, Dn.PrimK.errAs 64 66), (46, Dn.PrimK.errIs 64 34)] f) (fun f => Dn.lk C1.tab f) 100000 200 3 [] Dn.St.init Dn.retTrue = true := by kernel_rfl

theorem runs {w : World} (h : laidMetH Tryz.prog laid w) : Calls Tryz.prog 3 #[] w fun e w' => e = .returned (.bool true) ∧ Below w.heap.size w w' :=
  Dn.runs_of_exec2 Tryz.checked.mixed C1.tabOK prims ran w (inv_of_laid h)
end Go.Proofs.YtinhgnepnkbpcaaGreatDoor
