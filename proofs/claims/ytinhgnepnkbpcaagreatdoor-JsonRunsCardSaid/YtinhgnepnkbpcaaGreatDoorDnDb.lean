/- Rows that do not look at the store, rows that do not turn it. -/
import Derived.Test.YtinhgnepnkbpcaaGreatDoorDnDa
set_option linter.unusedSimpArgs false
set_option linter.unusedVariables false
namespace Go.Dn
open Go

def ParS (S T : St) : SR → SR → Prop
  | .fail, .fail => True
  | .done a s, .done b t => a = b ∧ s = S ∧ t = T
  | _, _ => False

section
variable {env : Env} {dst : Option Nat} {gt : GT} {S T : St}

theorem pS_fail : ParS S T .fail .fail := trivial
theorem pS_done (e : Env) : ParS S T (.done e S) (.done e T) := ⟨rfl, rfl, rfl⟩
theorem pS_val (x : Option AV) : ParS S T (SR.val dst env S x) (SR.val dst env T x) := by
  cases x with
  | none => trivial
  | some v => exact pS_done _
theorem pS_bif (b : Bool) {x y x' y' : SR} (h : ParS S T x x') (k : ParS S T y y') : ParS S T (bif b then x else y) (bif b then x' else y') := by
  cases b <;> assumption

theorem conform_some {t : Nat} {x : DOpd} {e : Env} {p : Loc} (h : (match some t, x with
    | l, .t n => (match l, lk e n with
      | some t, some (.box _) => Nat.beq t n
      | some t, some (.adr t' _) => Nat.beq t t'
      | none, some (.val _) => true
      | _, _ => false)
    | _, _ => true) = true) (hl : loc e x = some p) : (∃ off, p = .lc t off) ∨ ∃ g off, p = .gl g off := by
  cases x with
  | t n =>
    simp only [loc] at hl
    simp only at h
    split at hl
    · rename_i cs hk
      cases hl
      rw [hk] at h
      simp only at h
      rw [Nat.eq_of_beq_eq_true h]; exact .inl ⟨_, rfl⟩
    · rename_i t' off' hk
      cases hl
      rw [hk] at h
      simp only at h
      rw [Nat.eq_of_beq_eq_true h]; exact .inl ⟨_, rfl⟩
    · rename_i v hk
      rw [hk] at h
      simp at h
    · cases hl
  | g n => simp only [loc, Option.some.injEq] at hl; subst hl; exact .inr ⟨_, _, rfl⟩
  | _ => simp [loc] at hl

/-- a row that does not look at the store -/
theorem stepO_pure {l : Option Nat} {op : DOp} (hL : isLoc op = false) (he : effO l op = .pure) (hc : conform l env op = true) : ParS S T (stepO gt dst env S op) (stepO gt dst env T op) := by
  cases op <;> first | (cases hL; done) | (cases he; done) | skip
  case ld g sz x =>
    simp only [stepO]
    cases hx : loc env x with
    | none => exact pS_fail
    | some p =>
      have key : (∃ t off, p = .lc t off) ∨ ∃ g off, p = .gl g off := by
        cases l with
        | some t =>
          rcases conform_some (by cases x <;> exact hc) hx with ⟨off, h⟩ | ⟨g, off, h⟩
          · exact .inl ⟨t, off, h⟩
          · exact .inr ⟨g, off, h⟩
        | none =>
          cases x with
          | g n => simp only [loc, Option.some.injEq] at hx; subst hx; exact .inr ⟨_, _, rfl⟩
          | _ => simp [effO] at he
      rcases key with ⟨t, off, rfl⟩ | ⟨g', off, rfl⟩
      · simp only [ldL, ldC]; exact pS_val _
      · simp only [ldL, ldC]; exact pS_val _
  case st sz x y =>
    simp only [stepO]
    cases hx : loc env x with
    | none => cases opd env y <;> exact pS_fail
    | some p =>
      cases l with
      | none => simp [effO] at he
      | some t =>
        cases opd env y with
        | none => exact pS_fail
        | some v =>
          simp only
          refine pS_bif _ ?_ pS_fail
          rcases conform_some (by cases x <;> exact hc) hx with ⟨off, rfl⟩ | ⟨g', off, rfl⟩
          · simp only [stL]
            cases lk env t with
            | none => exact pS_fail
            | some en =>
              cases en with
              | box cs =>
                simp only
                cases Nat.ble (off + v.cells.length) cs.length with
                | false => exact pS_fail
                | true => exact pS_done _
              | _ => exact pS_fail
          · exact pS_fail
  all_goals simp only [stepO]
  all_goals repeat' first | exact pS_val _ | exact pS_fail | exact pS_done _ | apply pS_bif | split

/-- a row that leaves the store as it is -/
theorem stepO_still {l : Option Nat} {op : DOp} (he : effO l op ≠ .acts) (hL : isLoc op = false) (hc : conform l env op = true) : ParS S S (stepO gt dst env S op) (stepO gt dst env S op) := by
  by_cases hp : effO l op = .pure
  · exact stepO_pure hL hp hc
  · have hr : effO l op = .reads := by
      cases h : effO l op with
      | pure => exact absurd h hp
      | reads => rfl
      | acts => exact absurd h he
    cases op <;> first | (cases hL; done) | (cases hr; done) | skip
    case ld g sz x =>
      simp only [stepO]
      split
      · exact pS_val _
      · exact pS_fail
    case st sz x y => simp only [effO] at hr; split at hr <;> cases hr
    all_goals simp only [stepO]
    all_goals repeat' first | exact pS_val _ | exact pS_fail | exact pS_done _ | apply pS_bif | split
end
end Go.Dn
