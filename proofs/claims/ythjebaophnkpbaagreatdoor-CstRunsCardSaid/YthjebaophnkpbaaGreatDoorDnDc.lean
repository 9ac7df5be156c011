/- Two rows that do not clash may be exchanged. -/
import Derived.Test.YthjebaophnkpbaaGreatDoorDnDb
import Derived.Test.YthjebaophnkpbaaGreatDoorDnX
namespace Go.Dn
open Go

section
variable {gt : GT} {C : CallT}

theorem conform_agr {l : Option Nat} {op : DOp} {e1 e2 : Env} (h : Agr (readsO op) e1 e2) : conform l e1 op = conform l e2 op := by
  have key : ∀ n, n ∈ readsO op → lk e1 n = lk e2 n := fun n hn => h n hn
  cases op <;> try rfl
  case ld g s x => cases x <;> first | rfl | (simp only [conform]; rw [key _ (by simp [readsO, slotO])])
  case st s x y => cases x <;> first | rfl | (simp only [conform]; rw [key _ (by simp [readsO, slotO])])
  case nilc x => cases x <;> first | rfl | (simp only [conform]; rw [key _ (by simp [readsO, slotO])])
  case fa o x => cases x <;> first | rfl | (simp only [conform]; rw [key _ (by simp [readsO, slotO])])
  case iaA es n x i => cases x <;> first | rfl | (simp only [conform]; rw [key _ (by simp [readsO, slotO])])
  case slP es n x lo hi => cases x <;> first | rfl | (simp only [conform]; rw [key _ (by simp [readsO, slotO])])

theorem writesI_eq (i : DI × Option Nat) : writesI i = i.1.dst.toList ++ stW i.2 i.1.op := by
  unfold writesI stW
  cases i.1.op <;> rfl

theorem stepD_par {i : DI × Option Nat} {e1 e2 : Env} {S : St} (hL : isLoc i.1.op = false) (h : Agr (readsI i) e1 e2) : Par (writesI i) e1 e2 (stepD gt i e1 S) (stepD gt i e2 S) := by
  unfold readsI at h
  obtain ⟨h12, h3⟩ := appE h
  obtain ⟨h1, h2⟩ := appE h12
  have hdW : ∀ d, i.1.dst = some d → d ∈ writesI i := fun d e => by rw [writesI_eq, e]; simp
  have main : Par (writesI i) e1 e2 (bif conform i.2 e1 i.1.op then stepO gt i.1.dst e1 S i.1.op else .fail) (bif conform i.2 e2 i.1.op then stepO gt i.1.dst e2 S i.1.op else .fail) := by
    rw [← conform_agr (l := i.2) h1]
    cases hc : conform i.2 e1 i.1.op with
    | false => exact par_fail
    | true => exact stepO_par hL hdW (fun n hn => by rw [writesI_eq]; simp [hn]) h1 h3 hc
  unfold stepD
  cases hg : i.1.guard with
  | none => exact main
  | some gw =>
    obtain ⟨g, want⟩ := gw
    rw [hg] at h2
    simp only [h2 g (by simp)]
    split
    · exact par_bif _ main (par_putV hdW _ _)
    · exact par_putV hdW _ _
    · exact par_fail

theorem stepD_pure {i : DI × Option Nat} {env : Env} {S T : St} (hL : isLoc i.1.op = false) (he : effO i.2 i.1.op = .pure) : ParS S T (stepD gt i env S) (stepD gt i env T) := by
  have main : ParS S T (bif conform i.2 env i.1.op then stepO gt i.1.dst env S i.1.op else .fail) (bif conform i.2 env i.1.op then stepO gt i.1.dst env T i.1.op else .fail) := by
    cases hc : conform i.2 env i.1.op with
    | false => exact pS_fail
    | true => exact stepO_pure hL he hc
  unfold stepD
  cases i.1.guard with
  | none => exact main
  | some gw =>
    obtain ⟨g, want⟩ := gw
    simp only
    split
    · exact pS_bif _ main (pS_done _)
    · exact pS_done _
    · exact pS_fail

theorem stepD_still {i : DI × Option Nat} {env : Env} {S : St} (hL : isLoc i.1.op = false) (he : effO i.2 i.1.op ≠ .acts) : ParS S S (stepD gt i env S) (stepD gt i env S) := by
  have main : ParS S S (bif conform i.2 env i.1.op then stepO gt i.1.dst env S i.1.op else .fail) (bif conform i.2 env i.1.op then stepO gt i.1.dst env S i.1.op else .fail) := by
    cases hc : conform i.2 env i.1.op with
    | false => exact pS_fail
    | true => exact stepO_still he hL hc
  unfold stepD
  cases i.1.guard with
  | none => exact main
  | some gw =>
    obtain ⟨g, want⟩ := gw
    simp only
    split
    · exact pS_bif _ main (pS_done _)
    · exact pS_done _
    · exact pS_fail

def Eqv (e1 e2 : Env) : Prop := ∀ n, lk e1 n = lk e2 n

theorem lk_app : ∀ (ws : List (Nat × Ent)) (e : Env) (n : Nat), lk (ws ++ e) n = (lk ws n).or (lk e n)
  | [], e, n => by simp [lk]
  | (k, v) :: ws, e, n => by
    have := lk_app ws e n
    simp only [List.cons_append, lk_cons]
    split
    · rfl
    · exact this

theorem lk_none_of {ws : List (Nat × Ent)} {n : Nat} (h : ∀ p ∈ ws, p.1 ≠ n) : lk ws n = none := by
  induction ws with
  | nil => rfl
  | cons p ws ih =>
    obtain ⟨k, v⟩ := p
    rw [lk_cons, if_neg (h (k, v) (by simp))]
    exact ih fun q hq => h q (by simp [hq])

theorem not_meets {a b : List Nat} (h : meets a b = false) {x : Nat} (ha : x ∈ a) (hb : x ∈ b) : False := by
  unfold meets at h
  rw [Bool.eq_false_iff] at h
  exact h (List.any_eq_true.2 ⟨x, ha, List.any_eq_true.2 ⟨x, hb, Nat.beq_refl x⟩⟩)

/-- what is written beside does not turn what is read -/
theorem agr_app {R W : List Nat} {ws : List (Nat × Ent)} {e : Env} (hw : ∀ p ∈ ws, p.1 ∈ W) (hd : ∀ x, x ∈ W → x ∈ R → False) : Agr R e (ws ++ e) := fun n hn => by
  rw [lk_app, lk_none_of (ws := ws) (n := n) fun p hp e => hd n (by rw [← e]; exact hw p hp) hn]; simp

theorem eqv_swap {W W' : List Nat} {ws ws' : List (Nat × Ent)} {e : Env} (h : ∀ p ∈ ws, p.1 ∈ W) (h' : ∀ p ∈ ws', p.1 ∈ W') (hd : ∀ x, x ∈ W → x ∈ W' → False) : Eqv (ws ++ (ws' ++ e)) (ws' ++ (ws ++ e)) := fun n => by
  simp only [lk_app]
  by_cases hn : n ∈ W
  · rw [lk_none_of (ws := ws') (n := n) fun p hp e => hd n hn (by rw [← e]; exact h' p hp)]
    simp
  · rw [lk_none_of (ws := ws) (n := n) fun p hp e => hn (by rw [← e]; exact h p hp)]
    simp

def pw (dst : Option Nat) (v : AV) : List (Nat × Ent) :=
  match dst with
  | some d => [(d, .val v)]
  | none => []

theorem putV_pw (dst : Option Nat) (v : AV) (env : Env) : putV dst v env = pw dst v ++ env := by cases dst <;> rfl

theorem pw_W {i : DI × Option Nat} {v : AV} : ∀ p ∈ pw i.1.dst v, p.1 ∈ writesI i := fun p hp => by
  rw [writesI_eq]
  unfold pw at hp
  cases h : i.1.dst with
  | none => rw [h] at hp; cases hp
  | some d => rw [h] at hp; simp only [List.mem_singleton] at hp; subst hp; simp

/-- THE EXCHANGE. -/
theorem swapD (hm : MonoC C) {x y : DI × Option Nat} {env : Env} {S : St} {K : Env → St → Prop} {Q : Ex → Env → St → Prop} (hc : clash x y = false) (hLx : isLoc x.1.op = false) (hLy : isLoc y.1.op = false)
    (hK : ∀ e e' S, Eqv e e' → K e S → K e' S) (hQ : ∀ v S e e', Q (.pan v) e S → Q (.pan v) e' S)
    (H : afterS C x.1.dst env S (fun e1 S1 => afterS C y.1.dst e1 S1 K Q (stepD gt y e1 S1)) Q (stepD gt x env S)) :
    afterS C y.1.dst env S (fun e1 S1 => afterS C x.1.dst e1 S1 K Q (stepD gt x e1 S1)) Q (stepD gt y env S) := by
  unfold clash at hc
  simp only [Bool.or_eq_false_iff] at hc
  obtain ⟨m1, m2, m3, m4⟩ := hc
  have hxa : effO x.2 x.1.op ≠ .acts := fun e => by rw [e] at m4; simp at m4
  have hxy : effO y.2 y.1.op = .acts → effO x.2 x.1.op = .pure := fun e => by
    cases hx : effO x.2 x.1.op with
    | pure => rfl
    | reads => rw [hx, e] at m4; simp at m4
    | acts => exact absurd hx hxa
  -- the first row is done, and leaves the store
  have hst := stepD_still (gt := gt) (i := x) (env := env) (S := S) hLx hxa
  cases hx : stepD gt x env S with
  | fail => rw [hx] at H; exact H.elim
  | call f xs => rw [hx] at hst; exact hst.elim
  | pan v => rw [hx] at hst; exact hst.elim
  | done e1 S1 =>
    rw [hx] at hst H
    obtain ⟨_, rfl, _⟩ := hst
    -- the first row on another frame and, where it may be, another store
    have other : ∀ env2, Agr (readsI x) env env2 → ∃ ws : List (Nat × Ent), e1 = ws ++ env ∧ stepD gt x env2 S1 = .done (ws ++ env2) S1 ∧ ∀ p ∈ ws, p.1 ∈ writesI x := fun env2 h2 => by
      have hp := stepD_par (gt := gt) (S := S1) hLx h2
      rw [hx] at hp
      cases hz : stepD gt x env2 S1 with
      | done e2 S2 =>
        rw [hz] at hp
        obtain ⟨rfl, ws, h1, h2, h3⟩ := hp
        exact ⟨ws, h1, by rw [h2], h3⟩
      | fail => rw [hz] at hp; exact hp.elim
      | call f xs => rw [hz] at hp; exact hp.elim
      | pan v => rw [hz] at hp; exact hp.elim
    have pureO : effO x.2 x.1.op = .pure → ∀ env2 e2 S2, stepD gt x env2 S1 = .done e2 S1 → stepD gt x env2 S2 = .done e2 S2 := fun hp env2 e2 S2 h2 => by
      have := stepD_pure (gt := gt) (env := env2) (S := S1) (T := S2) hLx hp
      rw [h2] at this
      cases hz : stepD gt x env2 S2 with
      | done e3 S3 => rw [hz] at this; obtain ⟨rfl, _, rfl⟩ := this; rfl
      | fail => rw [hz] at this; exact this.elim
      | call f xs => rw [hz] at this; exact this.elim
      | pan v => rw [hz] at this; exact this.elim
    obtain ⟨ws, rfl, _, hws⟩ := other env (fun _ _ => rfl)
    have hagr : Agr (readsI y) (ws ++ env) env := fun n hn => (agr_app hws (fun z h1 h2 => not_meets m1 h1 h2) n hn).symm
    have hpar := stepD_par (gt := gt) (S := S1) hLy hagr
    -- the frame behind the second row, the first on it
    have join : ∀ (ws2 : List (Nat × Ent)), (∀ p ∈ ws2, p.1 ∈ writesI y) → ∃ ws' : List (Nat × Ent), stepD gt x (ws2 ++ env) S1 = .done (ws' ++ (ws2 ++ env)) S1 ∧ Eqv (ws2 ++ (ws ++ env)) (ws' ++ (ws2 ++ env)) := fun ws2 h2 => by
      obtain ⟨ws', he, hd, hw'⟩ := other (ws2 ++ env) (agr_app h2 fun z h1 h2 => not_meets m2 h2 h1)
      refine ⟨ws', hd, ?_⟩
      rw [he]
      exact eqv_swap h2 hw' fun z h1 h2 => not_meets m3 h2 h1
    simp only [afterS] at H
    cases hy : stepD gt y (ws ++ env) S1 with
    | fail => rw [hy] at H; exact H.elim
    | done e2 S2 =>
      rw [hy] at H hpar
      cases hy2 : stepD gt y env S1 with
      | fail => rw [hy2] at hpar; exact hpar.elim
      | call f xs => rw [hy2] at hpar; exact hpar.elim
      | pan v => rw [hy2] at hpar; exact hpar.elim
      | done e3 S3 =>
        rw [hy2] at hpar
        obtain ⟨rfl, ws2, rfl, rfl, h2⟩ := hpar
        obtain ⟨ws', hd, heq⟩ := join ws2 h2
        have hd2 : stepD gt x (ws2 ++ env) S2 = .done (ws' ++ (ws2 ++ env)) S2 := by
          by_cases hya : effO y.2 y.1.op = .acts
          · exact pureO (hxy hya) _ _ _ hd
          · have := stepD_still (gt := gt) (i := y) (env := env) (S := S1) hLy hya
            rw [hy2] at this
            obtain ⟨_, rfl, _⟩ := this
            exact hd
        simp only [afterS, hd2]
        exact hK _ _ _ heq H
    | call f xs =>
      rw [hy] at H hpar
      cases hy2 : stepD gt y env S1 with
      | fail => rw [hy2] at hpar; exact hpar.elim
      | done e3 S3 => rw [hy2] at hpar; exact hpar.elim
      | pan v => rw [hy2] at hpar; exact hpar.elim
      | call f2 xs2 =>
        rw [hy2] at hpar
        obtain ⟨rfl, rfl⟩ := hpar
        have hya : effO y.2 y.1.op = .acts := by
          cases h : effO y.2 y.1.op with
          | acts => rfl
          | _ =>
            have := stepD_still (gt := gt) (i := y) (env := env) (S := S1) hLy (by rw [h]; simp)
            rw [hy2] at this
            exact this.elim
        simp only [afterS] at H ⊢
        refine hm _ _ _ _ _ H fun r S' hr => ?_
        cases r with
        | pan v => exact hQ _ _ _ _ hr
        | ret v =>
          simp only at hr ⊢
          obtain ⟨ws', hd, heq⟩ := join (pw y.1.dst v) pw_W
          rw [putV_pw] at hr ⊢
          rw [pureO (hxy hya) _ _ S' hd]
          exact hK _ _ _ heq hr
    | pan v =>
      rw [hy] at H hpar
      cases hy2 : stepD gt y env S1 with
      | fail => rw [hy2] at hpar; exact hpar.elim
      | done e3 S3 => rw [hy2] at hpar; exact hpar.elim
      | call f xs => rw [hy2] at hpar; exact hpar.elim
      | pan u =>
        rw [hy2] at hpar
        have hpar : v = u := hpar
        subst hpar
        exact hQ _ _ _ _ H
end
end Go.Dn
