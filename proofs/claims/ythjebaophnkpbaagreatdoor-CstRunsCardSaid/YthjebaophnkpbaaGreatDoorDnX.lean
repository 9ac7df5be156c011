/- The same interpreter as a Boolean, with fuel, for the kernel. -/
import Derived.Test.YthjebaophnkpbaaGreatDoorDnM
namespace Go.Dn
open Go

abbrev CallB := FuncId → List AV → St → (Res → St → Bool) → Bool

def afterB (C : CallB) (dst : Option Nat) (env : Env) (S : St) (K : Env → St → Bool) (Q : Ex → Env → St → Bool) : SR → Bool
  | .fail => false
  | .done env' S' => K env' S'
  | .call f xs => C f xs S fun r S' => match r with
    | .ret v => K (putV dst v env) S'
    | .pan v => Q (.pan v) env S'
  | .pan v => Q (.pan v) env S

def exIs (gt : GT) (C : CallB) : List DI → Env → St → (Ex → Env → St → Bool) → Bool
  | [], env, S, Q => Q .normal env S
  | i :: r, env, S, Q => afterB C i.dst env S (fun env' S' => exIs gt C r env' S' Q) Q (stepI gt i env S)

def exDs (gt : GT) (C : CallB) : List (DI × Option Nat) → Env → St → (Ex → Env → St → Bool) → Bool
  | [], env, S, Q => Q .normal env S
  | i :: r, env, S, Q => afterB C i.1.dst env S (fun env' S' => exDs gt C r env' S' Q) Q (stepD gt i env S)

def iterB (body : Env → St → (Ex → Env → St → Bool) → Bool) : Nat → Env → St → (Ex → Env → St → Bool) → Bool
  | 0, _, _, _ => false
  | n + 1, env, S, Q => body env S fun e env' S' => match e with
    | .normal => iterB body n env' S' Q
    | e => Q e env' S'

def exD (gt : GT) (C : CallB) (lf : Nat) : DC → Env → St → (Ex → Env → St → Bool) → Bool
  | .skip, env, S, Q => Q .normal env S
  | .reg is keep, env, S, Q => exIs gt C is env S fun e env' S' => Q e (keepE env' keep) S'
  | .drw is keep, env, S, Q => exDs gt C is env S fun e env' S' => Q e (keepE env' keep) S'
  | .trim keep, env, S, Q => Q .normal (keepE env keep) S
  | .fail, _, _, _ => false
  | .ndet is keep, env, S, Q => match is with
    | [a, b, c, d] => afterB C a.dst env S (fun env' S' => (exIs gt C [b, c, d] env' S' fun e env' S' => Q e (keepE env' keep) S') && (exIs gt C [c, b, d] env' S' fun e env' S' => Q e (keepE env' keep) S')) (fun e env' S' => Q e (keepE env' keep) S') (stepI gt a env S)
    | _ => false
  | .seq a b, env, S, Q => exD gt C lf a env S fun e env' S' => match e with
    | .normal => exD gt C lf b env' S' Q
    | e => Q e env' S'
  | .cnd x a b, env, S, Q => match opd env x with
    | some (.bool t) => bif t then exD gt C lf a env S Q else exD gt C lf b env S Q
    | _ => false
  | .blk id c, env, S, Q => exD gt C lf c env S fun e env' S' => match e with
    | .exit id' => bif Nat.beq id' id then Q .normal env' S' else Q (.exit id') env' S'
    | e => Q e env' S'
  | .lop c, env, S, Q => iterB (exD gt C lf c) lf env S Q
  | .exit id, env, S, Q => Q (.exit id) env S
  | .ret, env, S, Q => Q .ret env S

def bodyB (rs : List DR) (Q : Res → St → Bool) : Ex → Env → St → Bool
  | .normal, env, S | .ret, env, S => match result env rs with
    | some v => Q (.ret v) S
    | none => false
  | .pan v, _, S => Q (.pan v) S
  | .exit _, _, _ => false

def exF (gt : GT) (C : CallB) (lf : Nat) (F : DF) (xs : List AV) (S : St) (Q : Res → St → Bool) : Bool :=
  bif Nat.beq xs.length F.np then exD gt C lf F.body (enterE xs 0) S (bodyB F.res Q) else false

def exec (gt : GT) (tab : FuncId → Option DF) (lf : Nat) : Nat → CallB
  | 0, _, _, _, _ => false
  | n + 1, f, xs, S, Q => match tab f with
    | some F => exF gt (exec gt tab lf n) lf F xs S Q
    | none => false

section
variable {gt : GT} {C : CallB} {C' : CallT}

def SoundC (C : CallB) (C' : CallT) : Prop := ∀ f xs S k, C f xs S k = true → C' f xs S fun r S' => k r S' = true
def MonoC (C' : CallT) : Prop := ∀ f xs S Q Q', C' f xs S Q → (∀ r S', Q r S' → Q' r S') → C' f xs S Q'

theorem afterB_sound (hC : SoundC C C') (hm : MonoC C') {dst : Option Nat} {env : Env} {S : St} {K : Env → St → Bool} {Q : Ex → Env → St → Bool} {K' : Env → St → Prop} {Q' : Ex → Env → St → Prop} (hk : ∀ env S, K env S = true → K' env S) (hq : ∀ e env S, Q e env S = true → Q' e env S) {r : SR}
    (h : afterB C dst env S K Q r = true) : afterS C' dst env S K' Q' r := by
  cases r with
  | fail => cases h
  | done env' S' => exact hk _ _ h
  | call f xs =>
    refine hm _ _ _ _ _ (hC _ _ _ _ h) fun r S' hr => ?_
    cases r with
    | ret v => exact hk _ _ hr
    | pan v => exact hq _ _ _ hr
  | pan v => exact hq _ _ _ h

theorem exIs_sound (hC : SoundC C C') (hm : MonoC C') : ∀ (is : List DI) (env : Env) (S : St) (Q : Ex → Env → St → Bool) (Q' : Ex → Env → St → Prop), (∀ e env S, Q e env S = true → Q' e env S) → exIs gt C is env S Q = true → wpIs gt C' is env S Q'
  | [], _, _, _, _, hq, h => hq _ _ _ h
  | i :: r, env, S, Q, Q', hq, h => afterB_sound hC hm (fun env' S' h' => exIs_sound hC hm r env' S' Q Q' hq h') hq h

theorem exDs_sound (hC : SoundC C C') (hm : MonoC C') : ∀ (is : List (DI × Option Nat)) (env : Env) (S : St) (Q : Ex → Env → St → Bool) (Q' : Ex → Env → St → Prop), (∀ e env S, Q e env S = true → Q' e env S) → exDs gt C is env S Q = true → wpDs gt C' is env S Q'
  | [], _, _, _, _, hq, h => hq _ _ _ h
  | i :: r, env, S, Q, Q', hq, h => afterB_sound hC hm (fun env' S' h' => exDs_sound hC hm r env' S' Q Q' hq h') hq h

theorem exD_sound (hC : SoundC C C') (hm : MonoC C') (lf : Nat) : ∀ (c : DC) (env : Env) (S : St) (Q : Ex → Env → St → Bool) (Q' : Ex → Env → St → Prop), (∀ e env S, Q e env S = true → Q' e env S) → exD gt C lf c env S Q = true → wpD gt C' c env S Q'
  | .skip, _, _, _, _, hq, h => hq _ _ _ h
  | .reg is keep, env, S, Q, Q', hq, h => exIs_sound hC hm is env S _ _ (fun e env S h' => hq _ _ _ h') h
  | .drw is keep, env, S, Q, Q', hq, h => exDs_sound hC hm is env S _ _ (fun e env S h' => hq _ _ _ h') h
  | .trim keep, _, _, _, _, hq, h => hq _ _ _ h
  | .fail, _, _, _, _, _, h => by cases h
  | .ndet is keep, env, S, Q, Q', hq, h => by
    simp only [exD] at h
    simp only [wpD]
    split at h
    · refine afterB_sound hC hm (fun env' S' h' => ?_) (fun e env S h' => hq _ _ _ h') h
      simp only [Bool.and_eq_true] at h'
      exact ⟨exIs_sound hC hm _ _ _ _ _ (fun e env S h' => hq _ _ _ h') h'.1, exIs_sound hC hm _ _ _ _ _ (fun e env S h' => hq _ _ _ h') h'.2⟩
    · cases h
  | .seq a b, env, S, Q, Q', hq, h => exD_sound hC hm lf a env S _ _ (fun e env S h' => by
      cases e with
      | normal => exact exD_sound hC hm lf b env S Q Q' hq h'
      | _ => exact hq _ _ _ h') h
  | .cnd x a b, env, S, Q, Q', hq, h => by
    simp only [exD] at h
    simp only [wpD]
    split at h
    · rename_i t ht
      simp only [ht]
      cases t with
      | true => rw [if_pos rfl]; exact exD_sound hC hm lf a env S Q Q' hq h
      | false => rw [if_neg (by decide)]; exact exD_sound hC hm lf b env S Q Q' hq h
    · cases h
  | .blk id c, env, S, Q, Q', hq, h => exD_sound hC hm lf c env S _ _ (fun e env S h' => by
      cases e with
      | exit id' =>
        simp only at h' ⊢
        by_cases hid : id' = id
        · subst hid
          rw [Nat.beq_refl] at h'
          rw [if_pos rfl]; exact hq _ _ _ h'
        · have : Nat.beq id' id = false := by
            cases hb : Nat.beq id' id
            · rfl
            · exact absurd (Nat.eq_of_beq_eq_true hb) hid
          rw [this] at h'
          rw [if_neg hid]; exact hq _ _ _ h'
      | _ => exact hq _ _ _ h') h
  | .lop c, env, S, Q, Q', hq, h => by
    refine ⟨lf, ?_⟩
    have key : ∀ n env S, iterB (exD gt C lf c) n env S Q = true → iterD (wpD gt C' c) n env S Q' := by
      intro n
      induction n with
      | zero => intro env S h; cases h
      | succ n ih =>
        intro env S h
        exact exD_sound hC hm lf c env S _ _ (fun e env S h' => by
          cases e with
          | normal => exact ih _ _ h'
          | _ => exact hq _ _ _ h') h
    exact key lf env S h
  | .exit id, _, _, _, _, hq, h => hq _ _ _ h
  | .ret, _, _, _, _, hq, h => hq _ _ _ h

theorem exF_sound (hC : SoundC C C') (hm : MonoC C') {lf : Nat} {F : DF} {xs : List AV} {S : St} {Q : Res → St → Bool} {Q' : Res → St → Prop} (hq : ∀ r S, Q r S = true → Q' r S) (h : exF gt C lf F xs S Q = true) : wpF gt C' F xs S Q' := by
  unfold exF at h
  cases hb : Nat.beq xs.length F.np with
  | false => rw [hb] at h; cases h
  | true =>
    rw [hb] at h
    refine ⟨Nat.eq_of_beq_eq_true hb, exD_sound hC hm lf _ _ _ _ _ (fun e env S h' => ?_) h⟩
    cases e with
    | normal =>
      simp only [bodyB] at h'
      split at h'
      · rename_i v hv; exact ⟨v, hv, hq _ _ h'⟩
      · cases h'
    | ret =>
      simp only [bodyB] at h'
      split at h'
      · rename_i v hv; exact ⟨v, hv, hq _ _ h'⟩
      · cases h'
    | pan v => exact hq _ _ h'
    | exit id => cases h'

theorem exec_sound {tab : FuncId → Option DF} {lf : Nat} (hm : MonoC C') (ht : ∀ f F xs S Q, tab f = some F → wpF gt C' F xs S Q → C' f xs S Q) : ∀ n, SoundC (exec gt tab lf n) C'
  | 0, _, _, _, _, h => by cases h
  | n + 1, f, xs, S, k, h => by
    simp only [exec] at h
    split at h
    · rename_i F hF
      exact ht f F xs S _ hF (exF_sound (exec_sound hm ht n) hm (fun _ _ h => h) h)
    · cases h
end
end Go.Dn
