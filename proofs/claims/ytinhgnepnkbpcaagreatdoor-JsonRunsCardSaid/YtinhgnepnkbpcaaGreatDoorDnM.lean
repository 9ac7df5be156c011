/- Code: what the abstract code says is what the machine does. -/
import Derived.Test.YtinhgnepnkbpcaaGreatDoorDnK
set_option linter.unusedSimpArgs false
set_option linter.unusedVariables false
namespace Go.Dn
open Go Go.RowKit

/-- what a call ends in -/
def callPost (P : Program) (gt : GT) (S : St) (G : Gh) (w : World) (Q : Res → St → Prop) : Ending → World → Prop
  | .returned v, w' => ∃ x S' G', Q (.ret x) S' ∧ Tr P gt S G w S' G' w' ∧ Rv S' G' w' x v
  | .panicked chain, w' => ∃ x S' G' u, chain = [{ v := u, recovered := false }] ∧ Q (.pan x) S' ∧ Tr P gt S G w S' G' w' ∧ Rv S' G' w' x u
  | .outgrown, _ => False

/-- A function keeps what the abstract call says. -/
def AC (P : Program) (gt : GT) (f : FuncId) (xs : List AV) (S : St) (Q : Res → St → Prop) : Prop :=
  HasBody P f ∧ ∀ G w args, Inv P gt S G w → Rl S G w xs args → Calls P f ⟨args⟩ w (callPost P gt S G w Q)

def Qc (P : Program) (gt : GT) (O : Orig) (QD : Ex → Env → St → Prop) : Exit → Act → World → Prop
  | .normal, a, w => ∃ env S G, Good P gt O S G w env a ∧ QD .normal env S
  | .ret, a, w => ∃ env S G, Good P gt O S G w env a ∧ QD .ret env S
  | .exit id, a, w => ∃ env S G, Good P gt O S G w env a ∧ QD (.exit id) env S
  | .panic chain, a, w => ∃ env S G x u, chain = [{ v := u, recovered := false }] ∧ Good P gt O S G w env a ∧ Rv S G w x u ∧ QD (.pan x) env S
  | _, _, _ => False

section
variable {P : Program} {gt : GT} {O : Orig}

theorem Qc.mono {Q1 Q2 : Ex → Env → St → Prop} (h : ∀ S G w env a e, Good P gt O S G w env a → Q1 e env S → ∃ env', Good P gt O S G w env' a ∧ Q2 e env' S) : ∀ e a w, Qc P gt O Q1 e a w → Qc P gt O Q2 e a w
  | .normal, a, w, ⟨env, S, G, g, q⟩ => let ⟨env', g', q'⟩ := h _ _ _ _ _ _ g q; ⟨env', S, G, g', q'⟩
  | .ret, a, w, ⟨env, S, G, g, q⟩ => let ⟨env', g', q'⟩ := h _ _ _ _ _ _ g q; ⟨env', S, G, g', q'⟩
  | .exit _, a, w, ⟨env, S, G, g, q⟩ => let ⟨env', g', q'⟩ := h _ _ _ _ _ _ g q; ⟨env', S, G, g', q'⟩
  | .panic _, a, w, ⟨env, S, G, x, u, hc, g, r, q⟩ => let ⟨env', g', q'⟩ := h _ _ _ _ _ _ g q; ⟨env', S, G, x, u, hc, g', r, q'⟩

theorem afterS_ok {S : St} {G : Gh} {w : World} {env : Env} {a : Act} {o : Oper} {next : Act → World → Prop} {QD : Ex → Env → St → Prop} {K : Env → St → Prop} {r : SR} (h : Good P gt O S G w env a) (hd : ∀ d, o.dst = some d → O.N.ok d)
    (hs : StepOK P gt O o w a S G r) (ha : afterS (AC P gt) o.dst env S K QD r)
    (hn : ∀ env' S' G' w' a', Good P gt O S' G' w' env' a' → K env' S' → next a' w') : o.wp P a w next (Qc P gt O QD) := by
  cases r with
  | fail => exact ha.elim
  | done env' S' =>
    obtain ⟨w', G', ⟨v, hr, hg⟩ | ⟨hr, hg⟩⟩ := hs
    · simp only [Oper.wp, hr, Oper.upon_value]; exact hn _ _ _ _ _ hg ha
    · simp only [Oper.wp, hr, Oper.upon_skip]; exact hn _ _ _ _ _ hg ha
  | call f xs =>
    obtain ⟨hb, hc⟩ := ha
    obtain ⟨args, hr, hx⟩ := hs hb
    simp only [Oper.wp, hr, Oper.upon_enter]
    refine Calls.mono (hc G w args h.inv hx) fun e w' hp => ?_
    cases e with
    | returned v =>
      obtain ⟨x, S', G', q, t, rv⟩ := hp
      exact hn _ _ _ _ _ ((h.step t).putV hd rv) q
    | panicked chain =>
      obtain ⟨x, S', G', u, hch, q, t, rv⟩ := hp
      exact ⟨env, S', G', x, u, hch, h.step t, rv, q⟩
    | outgrown => exact hp.elim
  | pan v =>
    obtain ⟨u, hr, rv⟩ := hs
    simp only [Oper.wp, hr, Oper.upon_panic]
    exact ⟨env, S, G, v, u, rfl, h, rv, ha⟩

theorem prepI_inv {locs : List Nat} {tk : Bool} {ops : Array Oper} {o : Oper} {N : Lim} {i : DI} (h : prepI P N locs tk ops o = some i) :
    (∀ d, o.dst = some d → N.ok d) ∧ i.dst = o.dst ∧ prepO P locs tk o = some i.op ∧ match o.guard with
      | none => i.guard = none
      | some (j, want) => ∃ d, (ops[j]?).bind (·.dst) = some d ∧ i.guard = some (d, want) := by
  unfold prepI at h
  split at h
  · cases h
  · rename_i hd
    have hd : ∀ d, o.dst = some d → N.ok d := fun d e => by
      rw [e] at hd
      simp only [dstOK, Bool.not_eq_false, Bool.and_eq_true] at hd
      exact ⟨blt_lt hd.1, fun t ht => by
        have := List.all_eq_true.1 hd.2 t ht
        intro e
        subst e
        rw [Nat.beq_refl] at this
        cases this⟩
    split at h
    · rename_i op hp
      split at h
      · rename_i hg
        simp only [Option.some.injEq] at h; subst h
        exact ⟨hd, rfl, hp, by rw [hg]⟩
      · rename_i j want hg
        split at h
        · rename_i d hj
          simp only [Option.some.injEq] at h; subst h
          exact ⟨hd, rfl, hp, by rw [hg]; exact ⟨d, hj, rfl⟩⟩
        · cases h
    · cases h

/-- one row, wanted or not -/
theorem stepI_ok {S : St} {G : Gh} {w : World} {env : Env} {a : Act} {o : Oper} {ops : Array Oper} {i : DI} {N : Lim} {locs : List Nat} {tk : Bool} (h : Good P gt O S G w env a) (hN : O.N = N) (hp : prepI P N locs tk ops o = some i) {QD : Ex → Env → St → Prop} {K : Env → St → Prop} {next : Act → World → Prop}
    (ha : afterS (AC P gt) i.dst env S K QD (stepI gt i env S))
    (hn : ∀ env' S' G' w' a', Good P gt O S' G' w' env' a' → K env' S' → next a' w') :
    if Region.wanted o (yielded ops a.tmps) then o.wp P a w next (Qc P gt O QD) else next (a.put o.dst undef) w := by
  obtain ⟨hd, h1, h2, h3⟩ := prepI_inv hp
  rw [← hN] at hd
  have skip : ∀ {env'}, Good P gt O S G w env a → env' = putV o.dst .undef env → Good P gt O S G w env' (a.put o.dst undef) := fun hg e => by
    rw [e]; exact hg.putV hd (by simp only [Rv])
  cases hg : o.guard with
  | none =>
    rw [hg] at h3
    simp only at h3
    have hw : Region.wanted o (yielded ops a.tmps) = true := by simp [Region.wanted, hg]
    rw [if_pos hw]
    unfold stepI at ha
    rw [h3, h1] at ha
    exact afterS_ok h hd (stepO_sound h hd h2) ha hn
  | some jw =>
    obtain ⟨j, want⟩ := jw
    rw [hg] at h3
    simp only at h3
    obtain ⟨d, hj, hgd⟩ := h3
    obtain ⟨fb, hf⟩ := h.fr
    unfold stepI at ha
    rw [hgd, h1] at ha
    simp only at ha
    split at ha
    · rename_i b hb
      obtain ⟨v, ht, hv⟩ := hf.ent d _ hb
      simp only [Rv] at hv
      subst hv
      have hy : yielded ops a.tmps j = some b := by simp [yielded, hj, ht]
      cases hbw : (b == want) with
      | true =>
        have hw : Region.wanted o (yielded ops a.tmps) = true := by
          have : b = want := by simpa using hbw
          simp [Region.wanted, hg, hy, this]
        rw [if_pos hw]
        rw [hbw] at ha
        exact afterS_ok h hd (stepO_sound h hd h2) ha hn
      | false =>
        have hw : ¬ Region.wanted o (yielded ops a.tmps) = true := by
          have : ¬ b = want := by simpa using hbw
          simp [Region.wanted, hg, hy, this]
        rw [if_neg hw]
        rw [hbw] at ha
        exact hn _ _ _ _ _ (skip h rfl) ha
    · rename_i hb
      obtain ⟨v, ht, hv⟩ := hf.ent d _ hb
      simp only [Rv] at hv
      subst hv
      have hy : yielded ops a.tmps j = none := by simp [yielded, hj, ht, undef]
      have hw : ¬ Region.wanted o (yielded ops a.tmps) = true := by simp [Region.wanted, hg, hy]
      rw [if_neg hw]
      exact hn _ _ _ _ _ (skip h rfl) ha
    · exact ha.elim

theorem ops_sound {ops : Array Oper} {N : Lim} (hN : O.N = N) {locs : List Nat} {tk : Bool} {QD : Ex → Env → St → Prop} : ∀ (rest : List Oper) (is : List DI) (k : Nat) (env : Env) (S : St) (G : Gh) (w : World) (a : Act),
    prepIs P N locs tk ops rest = some is → rest = ops.toList.drop k → Good P gt O S G w env a → wpIs gt (AC P gt) is env S QD → wpOps P ops (Qc P gt O QD) (List.range' k rest.length) a w
  | [], is, k, env, S, G, w, a, hp, hk, hg, hw => by
    simp only [prepIs, Option.some.injEq] at hp; subst hp
    exact ⟨env, S, G, hg, hw⟩
  | o :: rest, is, k, env, S, G, w, a, hp, hk, hg, hw => by
    simp only [prepIs] at hp
    split at hp
    · rename_i i is' h1 h2
      simp only [Option.some.injEq] at hp; subst hp
      have ho : ops[k]? = some o := by
        have : (ops.toList.drop k)[0]? = some o := by rw [← hk]; rfl
        rw [List.getElem?_drop] at this
        simpa using this
      have hrest : rest = ops.toList.drop (k + 1) := by
        have := congrArg List.tail hk
        simpa using this
      simp only [List.length_cons, List.range'_succ, wpOps, ho]
      exact stepI_ok (o := o) hg hN h1 hw (fun env' S' G' w' a' g kk => ops_sound hN rest is' (k + 1) env' S' G' w' a' h2 hrest g kk) |> fun hh => by
        split at hh
        · rename_i hwt; rw [if_pos hwt]; exact .inl hh
        · rename_i hwt; rw [if_neg hwt]; exact hh
    · cases hp

/-- what is said of a panic does not hang on the frame -/
def PI (QD : Ex → Env → St → Prop) : Prop := ∀ v S env env', QD (.pan v) env S → QD (.pan v) env' S

def Sd (P : Program) (gt : GT) (N : Lim) (c : Code) (D : DC) : Prop :=
  ∀ O S G w env a QD, PI QD → O.N = N → Good P gt O S G w env a → wpD gt (AC P gt) D env S QD → c.wp P (Qc P gt O QD) a w

theorem Sd.loop {N : Lim} {c : Code} {D : DC} (h : Sd P gt N c D) : Sd P gt N (.loop c) (.lop D) := by
  intro O S G w env a QD hpi hN hg hw
  obtain ⟨n, hn⟩ := hw
  refine wp_loop_rounds n ?_
  induction n generalizing S G w env a with
  | zero => exact hn.elim
  | succ n ih =>
    rw [rounds_succ]
    refine wp_mono (h O S G w env a _ (by intro v S env env' h; exact hpi v S env env' h) hN hg hn) fun e a' w' q => ?_
    cases e with
    | normal => obtain ⟨env', S', G', g, q⟩ := q; exact ih _ _ _ _ _ g q
    | exit id => exact q
    | ret => exact q
    | panic chain => exact q
    | goto l => exact q.elim
    | outgrown => exact q.elim

theorem Sd.trim {N : Lim} {c : Code} {D : DC} (h : Sd P gt N c D) (ks : List Nat) : Sd P gt N c (.seq D (.trim ks)) := by
  intro O S G w env a QD hpi hN hg hw
  refine wp_mono (h O S G w env a _ (by intro v S env env' h; exact hpi v S env env' h) hN hg hw) (Qc.mono fun S G w env a e g q => ?_)
  cases e with
  | normal => exact ⟨_, g.keepE ks, q⟩
  | _ => exact ⟨env, g, q⟩

theorem Sd.trim0 {N : Lim} {c : Code} {D : DC} (h : Sd P gt N c D) (ks : List Nat) : Sd P gt N c (.seq (.trim ks) D) := by
  intro O S G w env a QD hpi hN hg hw
  exact h O S G w _ a _ hpi hN (hg.keepE ks) hw

theorem Sd.block {N : Lim} {c : Code} {D : DC} (h : Sd P gt N c D) (id : Nat) : Sd P gt N (.block id c) (.blk id D) := by
  intro O S G w env a QD hpi hN hg hw
  refine wp_block (wp_mono (h O S G w env a _ (by intro v S env env' h; exact hpi v S env env' h) hN hg hw) fun e a' w' q => ?_)
  cases e with
  | normal => exact q
  | exit id' =>
    obtain ⟨env', S', G', g, q⟩ := q
    simp only [Exit.inBlock]
    simp only at q
    by_cases hid : id' = id
    · rw [if_pos hid] at q ⊢; exact ⟨env', S', G', g, q⟩
    · rw [if_neg hid] at q ⊢; exact ⟨env', S', G', g, q⟩
  | ret => exact q
  | panic chain => exact q
  | goto l => exact q.elim
  | outgrown => exact q.elim

theorem Sd.seq {N : Lim} {c1 c2 : Code} {D1 D2 : DC} (h1 : Sd P gt N c1 D1) (h2 : Sd P gt N c2 D2) : Sd P gt N (.seq c1 c2) (.seq D1 D2) := by
  intro O S G w env a QD hpi hN hg hw
  refine wp_seq (wp_mono (h1 O S G w env a _ (by intro v S env env' h; exact hpi v S env env' h) hN hg hw) fun e a' w' q => ?_)
  cases e with
  | normal => obtain ⟨env', S', G', g, q⟩ := q; exact h2 O _ _ _ _ _ _ hpi hN g q
  | exit id => exact q
  | ret => exact q
  | panic chain => exact q
  | goto l => exact q.elim
  | outgrown => exact q.elim

theorem Sd.cond {N : Lim} {x : Operand} {dx : DOpd} {c1 c2 : Code} {D1 D2 : DC} (hx : opdP P 0 x = some dx) (h1 : Sd P gt N c1 D1) (h2 : Sd P gt N c2 D2) : Sd P gt N (.cond x c1 c2) (.cnd dx D1 D2) := by
  intro O S G w env a QD hpi hN hg hw
  simp only [wpD] at hw
  split at hw
  · rename_i t ht
    obtain ⟨fb, hf⟩ := hg.fr
    have := opd_sound hx ht hf
    simp only [Rv] at this
    refine wp_cond_split this (fun e => ?_) (fun e => ?_)
    · rw [if_pos e] at hw; exact h1 O S G w env a QD hpi hN hg hw
    · rw [if_neg (by rw [e]; decide)] at hw; exact h2 O S G w env a QD hpi hN hg hw
  · exact hw.elim

theorem wpOps_mono {ops : Array Oper} : ∀ (l : List Nat) (a : Act) (w : World) (Q1 Q2 : Exit → Act → World → Prop), (∀ e a w, Q1 e a w → Q2 e a w) → wpOps P ops Q1 l a w → wpOps P ops Q2 l a w := by
    intro l
    induction l with
    | nil => intro a w Q1 Q2 hq hh; exact hq _ _ _ hh
    | cons i l ih =>
      intro a w Q1 Q2 hq hh
      simp only [wpOps] at hh ⊢
      split
      · rename_i ho; rw [ho] at hh; exact ih _ _ _ _ hq hh
      · rename_i o ho
        rw [ho] at hh
        simp only at hh
        split
        · rename_i hwt
          rw [if_pos hwt] at hh
          rcases hh with hh | ⟨hh, a', w', hl⟩
          · refine .inl ?_
            simp only [Oper.wp, Oper.upon] at hh ⊢
            split at hh
            · exact ih _ _ _ _ hq hh
            · exact ih _ _ _ _ hq hh
            · exact ih _ _ _ _ hq hh
            · refine Calls.mono hh fun e w'' hp => ?_
              cases e with
              | returned v => exact ih _ _ _ _ hq hp
              | panicked chain => exact hq _ _ _ hp
              | outgrown => obtain ⟨a', w', hl⟩ := hp; exact ⟨a', w', hq _ _ _ hl⟩
            · exact Rows.mono hh fun v w'' hp => ih _ _ _ _ hq hp
            · exact hq _ _ _ hh
            · exact hh.elim
          · exact .inr ⟨hh, a', w', hq _ _ _ hl⟩
        · rename_i hwt
          rw [if_neg hwt] at hh
          exact ih _ _ _ _ hq hh

theorem Sd.reg {N : Lim} {id : Nat} {ops : Array Oper} {locs : List Nat} {is : List DI} (h : prepIs P N locs true ops ops.toList = some is) (ks : List Nat) : Sd P gt N (.region id ops false) (.reg is ks) := by
  intro O S G w env a QD hpi hN hg hw
  refine wp_region ?_
  have := ops_sound hN ops.toList is 0 env S G w a h (by simp) hg hw
  simp only [Array.length_toList, ← List.range_eq_range'] at this
  exact wpOps_mono _ _ _ _ _ (Qc.mono fun S G w env a e g q => ⟨_, g.keepE ks, q⟩) this
end
end Go.Dn
