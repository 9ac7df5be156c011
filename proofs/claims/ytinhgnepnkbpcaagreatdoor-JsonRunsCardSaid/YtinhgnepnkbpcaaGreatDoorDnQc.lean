/- One operation, fourth part. -/
import Derived.Test.YtinhgnepnkbpcaaGreatDoorDnQb
set_option linter.unusedSimpArgs false
set_option linter.unusedVariables false
namespace Go.Dn
open Go Go.RowKit

section
variable {P : Program} {gt : GT} {O : Orig} {S : St} {G : Gh} {w : World} {env env' : Env} {a : Act} {S' : St} {o : Oper}

theorem eqGuard_ok (w : World) {op : BinOp} {t : TypeId} {x y : Operand} {u v : Value} (h1 : u = .nilIface → v = .nilIface → (isConstO x || isConstO y) = true) (h2 : ∀ xs, u = .agg xs → P.eqGuardType P.depth t = false) :
    (eqGuard op t x y u v).run P w = .ok () w := by
  have key : (eqGuard .eql t x y u v).run P w = .ok () w := by
    unfold eqGuard
    dsimp only
    split
    · rename_i hc; simp at hc
    · split
      · have := h1 rfl rfl
        rw [if_pos]
        · rfl
        · unfold isConstO at this
          exact this
      · rename_i xs ys
        simp [run_program, h2 xs rfl]
      · rfl
  cases op <;> first | exact key | (simp [eqGuard]; done)

/-- values at which '==' goes by the type -/
def eqNum : Value → Bool
  | .int _ _ | .float _ _ | .complex _ _ _ | .string _ => true
  | _ => false

theorem binOp_eql {t : TypeId} {u v : Value} (h : eqNum u = false) : binOp .eql t u v = (do pure (.bool (← Op.equal t u v)) : Sem Value) := by
  cases u <;> first | (simp [eqNum] at h; done) | rfl
theorem binOp_neq {t : TypeId} {u v : Value} (h : eqNum u = false) : binOp .neq t u v = (do pure (.bool (!(← Op.equal t u v))) : Sem Value) := by
  cases u <;> first | (simp [eqNum] at h; done) | rfl

def eqAV : AV → Bool
  | .bool _ | .nilp | .ptr _ _ | .eptr _ _ _ _ _ | .sl _ _ _ | .nilif | .ifc _ _ | .nilfn | .fn _ _ _ | .nilmap | .map _ | .agg _ => true
  | _ => false

theorem eqAV_num {x : AV} {u : Value} (h : eqAV x = true) (hx : Rv S G w x u) : eqNum u = false := by
  cases x <;> simp only [eqAV, Bool.false_eq_true] at h <;> simp only [Rv] at hx
  case bool => subst hx; rfl
  case nilp => subst hx; rfl
  case ptr => rw [hx.2]; rfl
  case eptr => obtain ⟨_, _, _, _, _, _, rfl⟩ := hx; rfl
  case sl => obtain ⟨_, _, _, rfl, _⟩ := hx; rfl
  case fn => obtain ⟨_, _, rfl, _⟩ := hx; rfl
  case nilfn => subst hx; rfl
  case ifc => obtain ⟨_, rfl, _⟩ := hx; rfl
  case nilif => subst hx; rfl
  case agg => obtain ⟨_, rfl, _⟩ := hx; rfl
  case nilmap => subst hx; rfl
  case map => rw [hx.2]; rfl

theorem eqv_av {e : EqK} {x y : AV} {b : Bool} (h : eqv e x y = some b) (h1 : e ≠ .int) (h2 : e ≠ .str) : eqAV x = true := by
  cases e <;> simp only [eqv] at h
  case bool => unfold eqBool at h; split at h <;> first | rfl | cases h
  case int => exact absurd rfl h1
  case str => exact absurd rfl h2
  case ptr => unfold eqPtr at h; split at h <;> first | rfl | cases h
  case sl => unfold eqSl at h; split at h <;> first | rfl | cases h
  case ifc => unfold eqIfc at h; split at h <;> first | rfl | cases h
  case fn => unfold eqFn at h; split at h <;> first | rfl | cases h
  case map => unfold eqMap at h; split at h <;> first | rfl | cases h
  case st =>
    cases hq : aggs x y with
    | none => rw [hq] at h; cases h
    | some p => unfold aggs at hq; split at hq <;> first | rfl | cases hq

theorem eqkO_some {t : TypeId} {x y : Operand} {e : EqK} (h : eqkO P t x y = some e) : eqkP P 8 t = some e ∧ (e = .ifc → (isConstO x || isConstO y) = true) ∧ (∀ fs, e = .st fs → P.eqGuardType P.depth t = false) := by
  unfold eqkO at h
  split at h
  · rename_i hk
    split at h
    · rename_i hc; cases h; exact ⟨hk, fun _ => hc, fun fs e => (by cases e)⟩
    · cases h
  · rename_i fs hk
    split at h
    · cases h
    · rename_i hg; cases h; exact ⟨hk, fun e => (by cases e), fun fs' _ => by simpa using hg⟩
  · rename_i h1 h2
    exact ⟨h, fun e' => (h1 (by rw [h, e'])).elim, fun fs e' => (h2 fs (by rw [h, e'])).elim⟩

theorem eq_case {op : BinOp} {t : TypeId} {x y : Operand} {e : EqK} {xa ya : AV} {b : Bool} {vx vy : Value} (hk : eqkO P t x y = some e) (he : eqv e xa ya = some b) (h1 : e ≠ .int) (h2 : e ≠ .str) (rx : Rv S G w xa vx) (ry : Rv S G w ya vy) :
    (eqGuard op t x y vx vy).run P w = .ok () w ∧ eqNum vx = false ∧ (Op.equal t vx vy).run P w = .ok b w := by
  obtain ⟨g1, g2, g3⟩ := eqkO_some hk
  refine ⟨eqGuard_ok w (fun e1 e2 => ?_) (fun xs e1 => ?_), eqAV_num (eqv_av he h1 h2) rx, ?_⟩
  · subst e1; subst e2
    refine g2 ?_
    cases e <;> simp only [eqv] at he
    case bool => unfold eqBool at he; split at he <;> first | (simp only [Rv] at rx; cases rx; done) | cases he
    case int => exact absurd rfl h1
    case str => exact absurd rfl h2
    case ptr => unfold eqPtr at he; split at he <;> first | (simp only [Rv] at rx; cases rx; done) | (simp only [Rv] at rx; cases rx.2; done) | (simp only [Rv] at rx; obtain ⟨_, _, _, _, _, _, h⟩ := rx; cases h; done) | cases he
    case sl => unfold eqSl at he; split at he <;> first | (simp only [Rv] at rx; obtain ⟨_, _, _, h, _⟩ := rx; cases h; done) | cases he
    case ifc => rfl
    case fn => unfold eqFn at he; split at he <;> first | (simp only [Rv] at rx; cases rx; done) | (simp only [Rv] at rx; obtain ⟨_, _, h, _⟩ := rx; cases h; done) | cases he
    case map => unfold eqMap at he; split at he <;> first | (simp only [Rv] at rx; cases rx; done) | (simp only [Rv] at rx; cases rx.2; done) | cases he
    case st =>
      cases hq : aggs xa ya with
      | none => rw [hq] at he; cases he
      | some p => unfold aggs at hq; split at hq <;> first | (simp only [Rv] at rx; obtain ⟨_, h, _⟩ := rx; cases h; done) | cases hq
  · subst e1
    cases e <;> simp only [eqv] at he
    case bool => unfold eqBool at he; split at he <;> first | (simp only [Rv] at rx; cases rx; done) | cases he
    case int => exact absurd rfl h1
    case str => exact absurd rfl h2
    case ptr => unfold eqPtr at he; split at he <;> first | (simp only [Rv] at rx; cases rx; done) | (simp only [Rv] at rx; cases rx.2; done) | (simp only [Rv] at rx; obtain ⟨_, _, _, _, _, _, h⟩ := rx; cases h; done) | cases he
    case sl => unfold eqSl at he; split at he <;> first | (simp only [Rv] at rx; obtain ⟨_, _, _, h, _⟩ := rx; cases h; done) | cases he
    case ifc => unfold eqIfc at he; split at he <;> first | (simp only [Rv] at rx; cases rx; done) | (simp only [Rv] at rx; obtain ⟨_, h, _⟩ := rx; cases h; done) | cases he
    case fn => unfold eqFn at he; split at he <;> first | (simp only [Rv] at rx; cases rx; done) | (simp only [Rv] at rx; obtain ⟨_, _, h, _⟩ := rx; cases h; done) | cases he
    case map => unfold eqMap at he; split at he <;> first | (simp only [Rv] at rx; cases rx; done) | (simp only [Rv] at rx; cases rx.2; done) | cases he
    case st fs => exact g3 fs rfl
  · unfold Op.equal Op.maxDepth
    exact eqv_sound w 8 g1 he rx ry 10000 (by omega)

theorem so_bin (h : Good P gt O S G w env a) (hd : ∀ d, o.dst = some d → O.N.ok d) {op : BinOp} {t u : TypeId} {x y : Operand} {dx dy : DOpd} {ek : Option EqK} (hop : o.op = .binOp op t x y u) (hx : opdP P t x = some dx) (hy : opdP P u y = some dy)
    (hek : (op = .eql ∨ op = .neq) → ek = eqkO P t x y) (hs : stepO gt o.dst env S (.bin op ek dx dy) = .done env' S') : OpOK P gt O o w a env' S' := by
  obtain ⟨fb, hfr⟩ := h.fr
  simp only [stepO] at hs
  split at hs
  · rename_i xa ya hxa hya
    refine ok_val' h hd hs fun z hz => ?_
    have rx := opd_sound hx hxa hfr
    have ry := opd_sound hy hya hfr
    generalize hvx : a.eval x = vx at rx
    generalize hvy : a.eval y = vy at ry
    have fin : ∀ {v : Value}, (binOp op t vx vy).run P w = .ok v w → (eqGuard op t x y vx vy).run P w = .ok () w → (execOp a.eval o).run P w = .ok (.value v) w := fun h1 h2 => by
      simp only [execOp, hop, Sem.run_bind, hvx, hvy, h2, Result.andThen_ok, h1, Sem.run_pure]
    unfold binV at hz
    split at hz
    · rename_i k p k' q
      simp only [Rv] at rx ry
      subst ry; subst rx
      cases hb : decide (q < 0) with
      | true => rw [hb] at hz; cases hz
      | false =>
        rw [hb] at hz
        cases hz
        have hq : ¬ q < 0 := by simpa using hb
        refine ⟨.int k (wr k (p * 2 ^ min q.toNat k.bits)), by simp only [Rv], fin ?_ (eqGuard_ok w (fun e => by cases e) (fun xs e => by cases e))⟩
        simp [binOp, Op.shift, hq, wr_eq]
    · rename_i k p k' q
      simp only [Rv] at rx ry
      subst ry; subst rx
      cases hb : decide (q < 0) with
      | true => rw [hb] at hz; cases hz
      | false =>
        rw [hb] at hz
        cases hz
        have hq : ¬ q < 0 := by simpa using hb
        refine ⟨.int k (p.fdiv (2 ^ min q.toNat k.bits)), by simp only [Rv], fin ?_ (eqGuard_ok w (fun e => by cases e) (fun xs e => by cases e))⟩
        simp [binOp, Op.shift, hq]
    · rename_i k p k' q _ _
      split at hz
      · rename_i hk
        subst hk
        simp only [Rv] at rx ry
        subst ry; subst rx
        obtain ⟨v, h1, h2⟩ := binI_sound (S := S) (G := G) (w := w) (P := P) hz (t := t)
        exact ⟨v, h1, fin h2 (eqGuard_ok w (fun e => by cases e) (fun xs e => by cases e))⟩
      · cases hz
    · simp only [Rv] at rx ry
      subst ry; subst rx
      obtain ⟨v, h1, h2⟩ := binS_sound (S := S) (G := G) (w := w) (P := P) hz (t := t)
      exact ⟨v, h1, fin h2 (eqGuard_ok w (fun e => by cases e) (fun xs e => by cases e))⟩
    · rename_i hni hns
      have hek := hek (.inl rfl)
      cases ek with
      | none => cases hz
      | some e =>
        obtain ⟨b, hb, rfl⟩ := Option.map_eq_some_iff.1 hz
        have n1 : e ≠ .int := fun e' => by
          subst e'; simp only [eqv] at hb; unfold eqInt at hb; split at hb
          · exact hni _ _ _ _ rfl rfl
          · cases hb
        have n2 : e ≠ .str := fun e' => by
          subst e'; simp only [eqv] at hb; unfold eqStr at hb; split at hb
          · exact hns _ _ rfl rfl
          · cases hb
        obtain ⟨k1, k2, k3⟩ := eq_case (op := .eql) hek.symm hb n1 n2 rx ry
        refine ⟨.bool b, by simp only [Rv], fin ?_ k1⟩
        rw [binOp_eql k2]
        simp [k3]
    · rename_i hni hns
      have hek := hek (.inr rfl)
      cases ek with
      | none => cases hz
      | some e =>
        obtain ⟨b, hb, rfl⟩ := Option.map_eq_some_iff.1 hz
        have n1 : e ≠ .int := fun e' => by
          subst e'; simp only [eqv] at hb; unfold eqInt at hb; split at hb
          · exact hni _ _ _ _ rfl rfl
          · cases hb
        have n2 : e ≠ .str := fun e' => by
          subst e'; simp only [eqv] at hb; unfold eqStr at hb; split at hb
          · exact hns _ _ rfl rfl
          · cases hb
        obtain ⟨k1, k2, k3⟩ := eq_case (op := .neq) hek.symm hb n1 n2 rx ry
        refine ⟨.bool (!b), by simp only [Rv], fin ?_ k1⟩
        rw [binOp_neq k2]
        simp [k3]
    · cases hz
  · cases hs
end
end Go.Dn
