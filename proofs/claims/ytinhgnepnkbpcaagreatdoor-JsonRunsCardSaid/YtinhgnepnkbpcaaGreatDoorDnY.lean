/- Walking abstract code with symbols: rules. -/
import Derived.Test.YtinhgnepnkbpcaaGreatDoorDnWc
set_option linter.unusedSimpArgs false
set_option linter.unusedVariables false
namespace Go.Dn
open Go Go.RowKit

section
variable {gt : GT} {C : CallT}

theorem afterS_imp (hm : MonoC C) {dst : Option Nat} {env : Env} {S : St} {K K' : Env → St → Prop} {Q Q' : Ex → Env → St → Prop} {r : SR} (hk : ∀ e S, K e S → K' e S) (hq : ∀ x e S, Q x e S → Q' x e S) (h : afterS C dst env S K Q r) : afterS C dst env S K' Q' r := by
  cases r with
  | fail => exact h
  | done e s => exact hk _ _ h
  | pan v => exact hq _ _ _ h
  | call f xs =>
    refine hm _ _ _ _ _ h fun r S' hr => ?_
    cases r with
    | ret v => exact hk _ _ hr
    | pan v => exact hq _ _ _ hr

theorem wpIs_imp (hm : MonoC C) : ∀ (is : List DI) {env : Env} {S : St} {Q Q' : Ex → Env → St → Prop}, (∀ x e S, Q x e S → Q' x e S) → wpIs gt C is env S Q → wpIs gt C is env S Q'
  | [], _, _, _, _, hq, h => hq _ _ _ h
  | _ :: r, _, _, _, _, hq, h => afterS_imp hm (fun _ _ h => wpIs_imp hm r hq h) hq h

theorem wpDs_imp (hm : MonoC C) : ∀ (is : List DRow) {env : Env} {S : St} {Q Q' : Ex → Env → St → Prop}, (∀ x e S, Q x e S → Q' x e S) → wpDs gt C is env S Q → wpDs gt C is env S Q'
  | [], _, _, _, _, hq, h => hq _ _ _ h
  | _ :: r, _, _, _, _, hq, h => afterS_imp hm (fun _ _ h => ⟨h.1, wpDs_imp hm r hq h.2⟩) hq h

theorem wpD_imp (hm : MonoC C) : ∀ (c : DC) {env : Env} {S : St} {Q Q' : Ex → Env → St → Prop}, (∀ x e S, Q x e S → Q' x e S) → wpD gt C c env S Q → wpD gt C c env S Q'
  | .skip, _, _, _, _, hq, h => hq _ _ _ h
  | .reg is keep, _, _, _, _, hq, h => wpIs_imp hm is (fun _ _ _ h => hq _ _ _ h) h
  | .drw is keep, _, _, _, _, hq, h => wpDs_imp hm is (fun _ _ _ h => hq _ _ _ h) h
  | .trim keep, _, _, _, _, hq, h => hq _ _ _ h
  | .fail, _, _, _, _, _, h => h
  | .ndet is keep, env, S, Q, Q', hq, h => by
    simp only [wpD] at h ⊢
    split at h
    · exact afterS_imp hm (fun _ _ h => ⟨wpIs_imp hm _ (fun _ _ _ h => hq _ _ _ h) h.1, wpIs_imp hm _ (fun _ _ _ h => hq _ _ _ h) h.2⟩) (fun _ _ _ h => hq _ _ _ h) h
    · exact h.elim
  | .seq a b, _, _, _, _, hq, h => wpD_imp hm a (fun x e S h => by
      cases x with
      | normal => exact wpD_imp hm b hq h
      | _ => exact hq _ _ _ h) h
  | .cnd x a b, env, S, Q, Q', hq, h => by
    simp only [wpD] at h ⊢
    split at h
    · rename_i t ht
      split at h
      · rename_i e; rw [if_pos e]; exact wpD_imp hm a hq h
      · rename_i e; rw [if_neg e]; exact wpD_imp hm b hq h
    · exact h.elim
  | .blk id c, _, _, _, _, hq, h => wpD_imp hm c (fun x e S h => by
      cases x with
      | exit id' =>
        simp only at h ⊢
        by_cases e : id' = id
        · rw [if_pos e] at h ⊢; exact hq _ _ _ h
        · rw [if_neg e] at h ⊢; exact hq _ _ _ h
      | _ => exact hq _ _ _ h) h
  | .lop c, env, S, Q, Q', hq, h => by
    obtain ⟨n, h⟩ := h
    refine ⟨n, ?_⟩
    revert env S
    induction n with
    | zero => intro env S h; exact h
    | succ n ih =>
      intro env S h
      exact wpD_imp hm c (fun x e S h => by
        cases x with
        | normal => exact ih _ _ h
        | _ => exact hq _ _ _ h) h
  | .exit id, _, _, _, _, hq, h => hq _ _ _ h
  | .ret, _, _, _, _, hq, h => hq _ _ _ h

/-- A LOOP, by what holds at its head and what grows less. -/
theorem loop_rule (hm : MonoC C) {c : DC} {Q : Ex → Env → St → Prop} {α : Type} (I : α → Env → St → Prop) (μ : α → Nat)
    (step : ∀ a env S, I a env S → wpD gt C c env S fun e env' S' => match e with
      | .normal => ∃ b, I b env' S' ∧ μ b < μ a
      | e => Q e env' S')
    {a : α} {env : Env} {S : St} (h : I a env S) : ∃ n, iterD (wpD gt C c) n env S Q := by
  have key : ∀ m a env S, μ a ≤ m → I a env S → iterD (wpD gt C c) (m + 1) env S Q := by
    intro m
    induction m with
    | zero =>
      intro a env S hm0 hI
      refine wpD_imp hm c (fun x e S h => ?_) (step a env S hI)
      cases x with
      | normal => obtain ⟨b, _, hb⟩ := h; omega
      | _ => exact h
    | succ m ih =>
      intro a env S hm0 hI
      refine wpD_imp hm c (fun x e S h => ?_) (step a env S hI)
      cases x with
      | normal => obtain ⟨b, h1, hb⟩ := h; exact ih b e S (by omega) h1
      | _ => exact h
  exact ⟨_, key (μ a) a env S (Nat.le_refl _) h⟩

/-! ### one operation whose outcome hangs on what is known -/

theorem step_rule {i : DI} {env env' : Env} {S S' : St} {K : Env → St → Prop} {Q : Ex → Env → St → Prop} (h : stepI gt i env S = .done env' S') (k : K env' S') : afterS C i.dst env S K Q (stepI gt i env S) := by
  rw [h]; exact k

theorem st_ia {d : Option Nat} {es : Nat} {x i : DOpd} {env : Env} {S : St} {o : SI} {xs : List AV} {k : Nat} (hx : opd env x = some (.sl es o xs)) (hi : (opd env i).bind nat? = some k) (hk : k < xs.length) :
    stepI gt ⟨d, .ia es x i, none⟩ env S = .done (putV d (.eptr es o xs k 0) env) S := by
  simp only [stepI, stepO, hx, hi, Nat.beq_refl, Bool.true_and, show Nat.blt k xs.length = true from Nat.ble_eq_true_of_le hk, cond_true]

theorem st_ldEl {d : Option Nat} {es : Nat} {a : DOpd} {env : Env} {S : St} {o : SI} {xs : List AV} {k : Nat} {v : AV} {g : Bool} {sz : Nat} (ha : loc env a = some (.el es o xs k 0)) (hr : rd S o = .here) (hv : xs[k]? = some v) (hm : (cut v.cells 0 sz).bind (mkv g) = some v) :
    stepI gt ⟨d, .ld g sz a, none⟩ env S = .done (putV d v env) S := by
  simp only [stepI, stepO, ha, ldL, ldC, elCells, hr, hv, Option.map_some]
  cases hc : cut v.cells 0 sz with
  | none => rw [hc] at hm; cases hm
  | some cs => rw [hc] at hm; simp only [Option.bind_some] at hm; simp only [hm, SR.val]

/-- the guard holds -/
def Gd (env : Env) (gd : Option (Nat × Bool)) : Prop := match gd with
  | none => True
  | some (g, w) => lk env g = some (.val (.bool w))

theorem st_gd {d : Option Nat} {op : DOp} {gd : Option (Nat × Bool)} {env : Env} {S : St} (hg : Gd env gd) : stepI gt ⟨d, op, gd⟩ env S = stepO gt d env S op := by
  cases gd with
  | none => rfl
  | some p =>
    obtain ⟨g, w⟩ := p
    have hg : lk env g = some (.val (.bool w)) := hg
    simp only [stepI, hg, beq_self_eq_true, cond_true]

theorem st_lkpN {d : Option Nat} {ek : EqK} {z : AV} {m k : DOpd} {ok : Bool} {env : Env} {S : St} {id : Nat} {kv : AV} {es : List (AV × AV)} {gd : Option (Nat × Bool)} (hg : Gd env gd) (hm : opd env m = some (.map id)) (hk : opd env k = some kv) (hkv : keyV ek kv = true) (hes : lk S.maps id = some es) (hf : findK ek kv es 0 = some none) :
    stepI gt ⟨d, .lkp ek z m k ok, gd⟩ env S = .done (putV d (bif ok then .tup [z, .bool false] else z) env) S := by
  rw [st_gd hg]
  simp only [stepO, hm, hk, hkv, hes, hf, cond_true]

theorem st_lkpS {d : Option Nat} {ek : EqK} {z : AV} {m k : DOpd} {ok : Bool} {env : Env} {S : St} {id : Nat} {kv : AV} {es : List (AV × AV)} {i : Nat} {v : AV} {gd : Option (Nat × Bool)} (hg : Gd env gd) (hm : opd env m = some (.map id)) (hk : opd env k = some kv) (hkv : keyV ek kv = true) (hes : lk S.maps id = some es) (hf : findK ek kv es 0 = some (some (i, v))) :
    stepI gt ⟨d, .lkp ek z m k ok, gd⟩ env S = .done (putV d (bif ok then .tup [v, .bool true] else v) env) S := by
  rw [st_gd hg]
  simp only [stepO, hm, hk, hkv, hes, hf, cond_true]

theorem st_mupN {d : Option Nat} {ek : EqK} {m k x : DOpd} {env : Env} {S : St} {id : Nat} {kv xv : AV} {es : List (AV × AV)} {gd : Option (Nat × Bool)} (hg : Gd env gd) (hm : opd env m = some (.map id)) (hk : opd env k = some kv) (hx : opd env x = some xv) (hkv : keyV ek kv = true) (hes : lk S.maps id = some es) (hf : findK ek kv es 0 = some none) :
    stepI gt ⟨d, .mup ek m k x, gd⟩ env S = .done (putV d .undef env) { S with maps := (id, es ++ [(kv, xv)]) :: S.maps } := by
  rw [st_gd hg]
  simp only [stepO, hm, hk, hx, hkv, hes, hf, cond_true]

theorem st_mupS {d : Option Nat} {ek : EqK} {m k x : DOpd} {env : Env} {S : St} {id : Nat} {kv xv v : AV} {es : List (AV × AV)} {i : Nat} {gd : Option (Nat × Bool)} (hg : Gd env gd) (hm : opd env m = some (.map id)) (hk : opd env k = some kv) (hx : opd env x = some xv) (hkv : keyV ek kv = true) (hes : lk S.maps id = some es) (hf : findK ek kv es 0 = some (some (i, v))) (hka : keyAt ek es i = true) :
    stepI gt ⟨d, .mup ek m k x, gd⟩ env S = .done (putV d .undef env) { S with maps := (id, es.set i (kv, xv)) :: S.maps } := by
  rw [st_gd hg]
  simp only [stepO, hm, hk, hx, hkv, hes, hf, cond_true, hka]

theorem call_rule {i : DI} {env : Env} {S : St} {K : Env → St → Prop} {Q : Ex → Env → St → Prop} {f : FuncId} {xs : List AV} (h : stepI gt i env S = .call f xs) (k : C f xs S fun r S' => match r with
    | .ret v => K (putV i.dst v env) S'
    | .pan v => Q (.pan v) env S') : afterS C i.dst env S K Q (stepI gt i env S) := by
  rw [h]; exact k

/-! ### maps of numbers -/

/-- what a map of numbers holds at a key: by the list of its entries -/
def getI (es : List (AV × AV)) (k : Int) : Option Int :=
  match es with
  | [] => none
  | (.int _ a, .int _ v) :: r => if k = a then some v else getI r k
  | _ :: r => getI r k

def IntMap (es : List (AV × AV)) : Prop := ∀ p ∈ es, ∃ a v, p = (.int .i64 a, .int .i64 v)

theorem findK_int {es : List (AV × AV)} (h : IntMap es) (k : Int) (i : Nat) : ∃ r, findK .int (.int .i64 k) es i = some r ∧ match r with
    | none => getI es k = none
    | some (j, x) => ∃ v, x = .int .i64 v ∧ getI es k = some v ∧ i ≤ j ∧ ∃ a, es[j - i]? = some (.int .i64 a, .int .i64 v) ∧ a = k ∧ ∀ m, m < j - i → ∀ b v', es[m]? = some (.int .i64 b, v') → b ≠ k := by
  induction es generalizing i with
  | nil => exact ⟨none, rfl, rfl⟩
  | cons p r ih =>
    obtain ⟨a, v, rfl⟩ := h p (by simp)
    by_cases hk : k = a
    · subst hk
      refine ⟨some (i, .int .i64 v), by simp [findK, eqv, eqInt], v, rfl, by simp [getI], Nat.le_refl _, k, by simp, rfl, fun m hm => ?_⟩
      omega
    · obtain ⟨r', h1, h2⟩ := ih (fun q hq => h q (by simp [hq])) (i + 1)
      have hne : (k == a) = false := by simpa using hk
      refine ⟨r', by simp [findK, eqv, eqInt, hne, h1], ?_⟩
      cases r' with
      | none => simp only [getI, hk, if_false]; exact h2
      | some q =>
        obtain ⟨j, x⟩ := q
        obtain ⟨v', e1, e2, e3, a', e4, e5, e6⟩ := h2
        refine ⟨v', e1, by simp only [getI, hk, if_false]; exact e2, by omega, a', ?_, e5, fun m hm b v'' hb => ?_⟩
        · rw [show j - i = (j - (i + 1)) + 1 by omega]; simpa using e4
        · cases m with
          | zero => simp at hb; rw [← hb.1]; exact fun e => hk e.symm
          | succ m => exact e6 m (by omega) b v'' (by simpa using hb)

end

section
variable {P : Program} {gt : GT}

/-- A LAW WITHOUT ARGUMENTS, called from within a walk. -/
theorem AC_closed {f : FuncId} (hb : HasBody P f) (h : ∀ W, Calls P f #[] W fun e W' => e = .returned (.bool true) ∧ Below W.heap.size W W') (S : St) : AC P gt f [] S fun r S' => r = .ret (.bool true) ∧ S' = S :=
  ⟨hb, fun G w args hI hx => by
    simp only [Rl] at hx
    subst hx
    refine Calls.mono (h w) fun e w' hp => ?_
    obtain ⟨rfl, hb⟩ := hp
    exact ⟨.bool true, S, G, ⟨rfl, rfl⟩, Tr.gr hI ⟨hb.os, hb.tape, hb.output, hb.size, hb.block⟩, by simp only [Rv]⟩⟩
end
end Go.Dn
