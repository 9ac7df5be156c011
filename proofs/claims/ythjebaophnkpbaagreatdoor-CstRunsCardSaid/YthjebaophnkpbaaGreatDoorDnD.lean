/- Regions that draw their order: the canonical order stands for every order. -/
import Derived.Test.YthjebaophnkpbaaGreatDoorDnDc
namespace Go.Dn
open Go Go.RowKit

section
variable {gt : GT} {C : CallT}

theorem afterS_mono (hm : MonoC C) {dst : Option Nat} {env : Env} {S : St} {K K' : Env → St → Prop} {Q : Ex → Env → St → Prop} {r : SR} (hk : ∀ e S, K e S → K' e S) (h : afterS C dst env S K Q r) : afterS C dst env S K' Q r := by
  cases r with
  | fail => exact h
  | done e s => exact hk _ _ h
  | pan v => exact h
  | call f xs =>
    refine hm _ _ _ _ _ h fun r S' hr => ?_
    cases r with
    | ret v => exact hk _ _ hr
    | pan v => exact hr

theorem Eqv.app {e e' : Env} (h : Eqv e e') (ws : List (Nat × Ent)) : Eqv (ws ++ e) (ws ++ e') := fun n => by rw [lk_app, lk_app, h n]

theorem wpDs_eqv (hm : MonoC C) {Q : Ex → Env → St → Prop} (hQ : ∀ v S e e', Q (.pan v) e S → Q (.pan v) e' S) (hN : ∀ S e e', Eqv e e' → Q .normal e S → Q .normal e' S) : ∀ (l : List (DI × Option Nat)), (∀ x ∈ l, isLoc x.1.op = false) → ∀ e e' S, Eqv e e' → wpDs gt C l e S Q → wpDs gt C l e' S Q
  | [], _, e, e', S, h, H => hN _ _ _ h H
  | x :: l, hL, e, e', S, h, H => by
    have ih := wpDs_eqv hm hQ hN l fun y hy => hL y (by simp [hy])
    simp only [wpDs] at H ⊢
    have hp := stepD_par (gt := gt) (S := S) (hL x (by simp)) (e1 := e) (e2 := e') fun n _ => h n
    cases h1 : stepD gt x e S with
    | fail => rw [h1] at H; exact H.elim
    | done a s =>
      rw [h1] at H hp
      cases h2 : stepD gt x e' S with
      | done b t =>
        rw [h2] at hp
        obtain ⟨rfl, ws, rfl, rfl, _⟩ := hp
        exact ih _ _ _ (h.app ws) H
      | fail => rw [h2] at hp; exact hp.elim
      | call f xs => rw [h2] at hp; exact hp.elim
      | pan v => rw [h2] at hp; exact hp.elim
    | call f xs =>
      rw [h1] at H hp
      cases h2 : stepD gt x e' S with
      | call f2 xs2 =>
        rw [h2] at hp
        obtain ⟨rfl, rfl⟩ := hp
        refine hm _ _ _ _ _ H fun r S' hr => ?_
        cases r with
        | ret v =>
          simp only at hr ⊢
          rw [putV_pw] at hr ⊢
          exact ih _ _ _ (h.app _) hr
        | pan v => exact hQ _ _ _ _ hr
      | fail => rw [h2] at hp; exact hp.elim
      | done b t => rw [h2] at hp; exact hp.elim
      | pan v => rw [h2] at hp; exact hp.elim
    | pan v =>
      rw [h1] at H hp
      cases h2 : stepD gt x e' S with
      | pan u =>
        rw [h2] at hp
        have : v = u := hp
        subst this
        exact hQ _ _ _ _ H
      | fail => rw [h2] at hp; exact hp.elim
      | done b t => rw [h2] at hp; exact hp.elim
      | call f xs => rw [h2] at hp; exact hp.elim

/-- a row is brought to the front -/
theorem wpDs_front (hm : MonoC C) {Q : Ex → Env → St → Prop} (hQ : ∀ v S e e', Q (.pan v) e S → Q (.pan v) e' S) (hN : ∀ S e e', Eqv e e' → Q .normal e S → Q .normal e' S) {x : DI × Option Nat} {post : List (DI × Option Nat)} (hx : isLoc x.1.op = false) (hpost : ∀ y ∈ post, isLoc y.1.op = false) :
    ∀ (pre : List (DI × Option Nat)), (∀ y ∈ pre, isLoc y.1.op = false ∧ clash y x = false) → ∀ env S, wpDs gt C (pre ++ x :: post) env S Q → wpDs gt C (x :: (pre ++ post)) env S Q
  | [], _, _, _, H => H
  | y :: pre, hp, env, S, H => by
    have ih := wpDs_front hm hQ hN hx hpost pre fun z hz => hp z (by simp [hz])
    have h1 : afterS C y.1.dst env S (fun e1 S1 => afterS C x.1.dst e1 S1 (fun e2 S2 => wpDs gt C (pre ++ post) e2 S2 Q) Q (stepD gt x e1 S1)) Q (stepD gt y env S) := afterS_mono hm (fun e1 S1 h => ih e1 S1 h) H
    have hall : ∀ z ∈ pre ++ post, isLoc z.1.op = false := fun z hz => by
      rcases List.mem_append.1 hz with h | h
      · exact (hp z (by simp [h])).1
      · exact hpost z h
    exact swapD hm (hp y (by simp)).2 (hp y (by simp)).1 hx (fun e e' S he h => wpDs_eqv hm hQ hN _ hall _ _ _ he h) hQ h1

/-- what must lie ahead of a row -/
inductive Anc (B : Nat → List Nat) : Nat → Nat → Prop
  | step {i j : Nat} (h : j ∈ B i) : Anc B i j
  | trans {i k j : Nat} (h : k ∈ B i) (t : Anc B k j) : Anc B i j

theorem ancs_ok {B : Nat → List Nat} : ∀ (rest : List Oper) (i : Nat) (acc anc : List (List Nat)), ancs i rest acc = some anc → acc.length = i → (∀ k l, acc[k]? = some l → ∀ j ∈ l, Anc B k j) → (∀ m o, rest[m]? = some o → B (i + m) = bindOn o) →
    (∀ m o, rest[m]? = some o → ∀ j ∈ bindOn o, j < i + m) ∧ ∀ k l, anc[k]? = some l → ∀ j ∈ l, Anc B k j
  | [], i, acc, anc, h, _, ha, _ => by
    simp only [ancs, Option.some.injEq] at h; subst h
    exact ⟨fun m o hm => by simp at hm, ha⟩
  | o :: rest, i, acc, anc, h, hl, ha, hB => by
    simp only [ancs] at h
    split at h
    · rename_i hd
      have hBi : B i = bindOn o := by simpa using hB 0 o rfl
      have hlt : ∀ j ∈ bindOn o, j < i := fun j hj => blt_lt (List.all_eq_true.1 hd j hj)
      obtain ⟨g1, g2⟩ := ancs_ok rest (i + 1) _ anc h (by simp [hl]) (fun k l hk j hj => by
        by_cases hki : k < acc.length
        · rw [List.getElem?_append_left hki] at hk
          exact ha k l hk j hj
        · rw [List.getElem?_append_right (by omega)] at hk
          have hk0 : k = i := by
            have := (List.getElem?_eq_some_iff.1 hk).1
            simp at this
            omega
          subst hk0
          rw [hl, Nat.sub_self] at hk
          simp only [List.getElem?_cons_zero, Option.some.injEq] at hk
          subst hk
          obtain ⟨_, hj2⟩ := List.mem_filter.1 hj
          obtain ⟨q, hq, hq2⟩ := List.any_eq_true.1 hj2
          simp only [Bool.or_eq_true] at hq2
          rcases hq2 with hq2 | hq2
          · have := Nat.eq_of_beq_eq_true hq2
            subst this
            exact .step (by rw [hBi]; exact hq)
          · obtain ⟨z, hz, hz2⟩ := List.any_eq_true.1 hq2
            have := Nat.eq_of_beq_eq_true hz2
            subst this
            cases hg : acc[q]? with
            | none => simp [List.getD_eq_getElem?_getD, hg] at hz
            | some l' =>
              simp only [List.getD_eq_getElem?_getD, hg, Option.getD_some] at hz
              exact .trans (by rw [hBi]; exact hq) (ha q l' hg _ hz)) (fun m o' hm => by
        have := hB (m + 1) o' (by simpa using hm)
        rw [← this]; congr 1; omega)
      refine ⟨fun m o' hm j hj => ?_, g2⟩
      cases m with
      | zero => simp at hm; subst hm; simpa using hlt j hj
      | succ m =>
        have := g1 m o' (by simpa using hm) j hj
        omega
    · cases h
end

section
variable {P : Program} {gt : GT} {O : Orig}

theorem prepIs_get {N : Nat} {locs : List Nat} {tk : Bool} {ops : Array Oper} : ∀ {rest : List Oper} {is : List DI}, prepIs P N locs tk ops rest = some is →
    is.length = rest.length ∧ ∀ (k : Nat) (i : DI), is[k]? = some i → ∃ o, rest[k]? = some o ∧ prepI P N locs tk ops o = some i
  | [], is, h => by
    simp only [prepIs, Option.some.injEq] at h; subst h
    exact ⟨rfl, fun k i hk => by simp at hk⟩
  | o :: rest, is, h => by
    simp only [prepIs] at h
    split at h
    · rename_i i is' h1 h2
      simp only [Option.some.injEq] at h; subst h
      obtain ⟨g1, g2⟩ := prepIs_get h2
      refine ⟨by simp [g1], fun k j hk => ?_⟩
      cases k with
      | zero => simp at hk; subst hk; exact ⟨o, rfl, h1⟩
      | succ k => simpa using g2 k j (by simpa using hk)
    · cases h

/-- one row, in whatever order -/
theorem wpOp_row {ops : Array Oper} {N : Nat} (hN : O.N = N) {locs : List Nat} {tk : Bool} {k : Nat} {o : Oper} {i : DI} (ho : ops[k]? = some o) (hp : prepI P N locs tk ops o = some i) {S : St} {G : Gh} {w : World} {env : Env} {a : Act} (hg : Good P gt O S G w env a)
    {QD : Ex → Env → St → Prop} {K : Env → St → Prop} {next : Act → World → Prop} (ha : afterS (AC P gt) i.dst env S K QD (stepI gt i env S)) (hn : ∀ env' S' G' w' a', Good P gt O S' G' w' env' a' → K env' S' → next a' w') : wpOp P ops (Qc P gt O QD) k next a w := by
  unfold wpOp
  rw [ho]
  simp only
  have := stepI_ok (o := o) hg hN hp ha hn
  split at this
  · rename_i hwt; rw [if_pos hwt]; exact .inl this
  · rename_i hwt; rw [if_neg hwt]; exact this


theorem AC_mono' : MonoC (AC P gt) := fun f xs S Q Q' h hq =>
  ⟨h.1, fun G w args hI hx => Calls.mono (h.2 G w args hI hx) fun e w' hp => by
    cases e with
    | returned v => obtain ⟨x, S', G', q, t, r⟩ := hp; exact ⟨x, S', G', hq _ _ q, t, r⟩
    | panicked chain => obtain ⟨x, S', G', u, hc, q, t, r⟩ := hp; exact ⟨x, S', G', u, hc, hq _ _ q, t, r⟩
    | outgrown => exact hp.elim⟩

theorem stepD_or (i : DI × Option Nat) (env : Env) (S : St) : stepD gt i env S = .fail ∨ stepD gt i env S = stepI gt i.1 env S := by
  unfold stepD stepI
  cases i.1.guard with
  | none =>
    cases conform i.2 env i.1.op with
    | true => exact .inr rfl
    | false => exact .inl rfl
  | some gw =>
    obtain ⟨g, want⟩ := gw
    simp only
    split
    · rename_i b hb
      cases b == want with
      | false => exact .inr rfl
      | true =>
        cases conform i.2 env i.1.op with
        | true => exact .inr rfl
        | false => exact .inl rfl
    · exact .inr rfl
    · exact .inr rfl

theorem all_bind (o : Oper) (L : Nat → Bool) : (o.after.all fun e => !Region.binds .any e || L e.on) = (bindOn o).all L := by
  unfold bindOn
  rw [← Array.all_toList, List.all_map, List.all_filter]
  congr 1

theorem ready_mem {ops : Array Oper} {listed : Array Bool} {i : Nat} : i ∈ Region.ready .any ops listed ↔ i < ops.size ∧ listed.getD i true = false ∧ ∃ o, ops[i]? = some o ∧ ∀ e ∈ bindOn o, listed.getD e false = true := by
  unfold Region.ready
  rw [List.mem_filter, List.mem_range, Bool.and_eq_true, Bool.not_eq_true']
  refine and_congr Iff.rfl (and_congr Iff.rfl ?_)
  cases ho : ops[i]? with
  | none => simp
  | some o =>
    simp only [Option.map_some, Option.getD_some, Option.some.injEq, exists_eq_left']
    rw [all_bind o (listed.getD · false), List.all_eq_true]

theorem getD_set {l : Array Bool} {i j : Nat} {d : Bool} (hi : i < l.size) : (l.setIfInBounds i true).getD j d = if i = j then true else l.getD j d := by
  simp only [Array.getD_eq_getD_getElem?, Array.getElem?_setIfInBounds]
  by_cases h : i = j
  · subst h; simp [hi]
  · simp [h]

theorem getD_lt {l : Array Bool} {i : Nat} (hi : i < l.size) (d d' : Bool) : l.getD i d = l.getD i d' := by
  simp [Array.getD_eq_getD_getElem?, hi]

theorem drw_any {N : Nat} (hN : O.N = N) {ops : Array Oper} {locs : List Nat} {B : Nat → List Nat} (hB : ∀ (i : Nat) (o : Oper), ops[i]? = some o → B i = bindOn o) (hBlt : ∀ (i : Nat) (o : Oper), ops[i]? = some o → ∀ j ∈ bindOn o, j < i)
    {anc : List (List Nat)} (hanc : ∀ (k : Nat) (l : List Nat), anc[k]? = some l → ∀ j ∈ l, Anc B k j) {QD : Ex → Env → St → Prop} (hQ : ∀ v S e e', QD (.pan v) e S → QD (.pan v) e' S) (hNQ : ∀ S e e', Eqv e e' → QD .normal e S → QD .normal e' S) :
    ∀ (fuel : Nat) (listed : Array Bool) (rem : List (Nat × DI × Option Nat)) (env : Env) (S : St) (G : Gh) (w : World) (a : Act), rem.length ≤ fuel → listed.size = ops.size →
      (∀ p ∈ rem, listed.getD p.1 true = false) → (∀ i, i < ops.size → listed.getD i true = false → ∃ p ∈ rem, p.1 = i) →
      (∀ p ∈ rem, isLoc p.2.1.op = false ∧ ∃ o, ops[p.1]? = some o ∧ prepI P N locs false ops o = some p.2.1) →
      rem.Pairwise (fun x y => x.1 ≠ y.1 ∧ (x.1 ∈ anc.getD y.1 [] ∨ clash x.2 y.2 = false)) →
      (∀ (i : Nat) (o : Oper), ops[i]? = some o → listed.getD i true = true → ∀ e ∈ bindOn o, listed.getD e false = true) →
      Good P gt O S G w env a → wpDs gt (AC P gt) (rem.map (·.2)) env S QD → wpAny P .any ops (Qc P gt O QD) fuel listed a w := by
  intro fuel
  -- where nothing is ready, nothing is left
  have empty : ∀ (listed : Array Bool) (rem : List (Nat × DI × Option Nat)), listed.size = ops.size → (∀ p ∈ rem, listed.getD p.1 true = false) → (∀ p ∈ rem, ∃ o, ops[p.1]? = some o) → Region.ready .any ops listed = [] → rem = [] := by
    intro listed rem hs hb hd hr
    have all : ∀ i, i < ops.size → listed.getD i true = true := by
      intro i
      induction i using Nat.strongRecOn with
      | _ i ih =>
        intro hi
        cases hl : listed.getD i true with
        | true => rfl
        | false =>
          have : i ∈ Region.ready .any ops listed := ready_mem.2 ⟨hi, hl, ops[i], by simp [hi], fun e he => by
            have hei := hBlt i ops[i] (by simp [hi]) e he
            rw [getD_lt (by omega) false true]
            exact ih e hei (by omega)⟩
          rw [hr] at this
          cases this
    cases rem with
    | nil => rfl
    | cons p r =>
      obtain ⟨o, ho⟩ := hd p (by simp)
      have := all p.1 (by rw [Array.getElem?_eq_some_iff] at ho; exact ho.1)
      rw [hb p (by simp)] at this
      cases this
  induction fuel with
  | zero =>
    intro listed rem env S G w a hf hs hb hc hd he hdc hg hw
    have hr : rem = [] := List.length_eq_zero_iff.1 (by omega)
    subst hr
    refine ⟨?_, env, S, G, hg, hw⟩
    cases hrd : Region.ready .any ops listed with
    | nil => rfl
    | cons i r =>
      have hi : i ∈ Region.ready .any ops listed := by rw [hrd]; simp
      obtain ⟨h1, h2, _⟩ := ready_mem.1 hi
      obtain ⟨p, hp, _⟩ := hc i h1 h2
      cases hp
  | succ fuel ih =>
    intro listed rem env S G w a hf hs hb hc hd he hdc hg hw
    refine ⟨fun hr => ?_, fun i hi => ?_⟩
    · have := empty listed rem hs hb (fun p hp => (hd p hp).2.imp fun o h => h.1) hr
      subst this
      exact ⟨env, S, G, hg, hw⟩
    · obtain ⟨h1, h2, o, ho, hpre⟩ := ready_mem.1 hi
      obtain ⟨p, hp, rfl⟩ := hc i h1 h2
      obtain ⟨pre, post, rfl⟩ := List.append_of_mem hp
      obtain ⟨hLp, o', ho', hprep⟩ := hd p (by simp)
      have hpw := List.pairwise_append.1 he
      have hpw2 := List.pairwise_cons.1 hpw.2.1
      have hAnc : ∀ j, Anc B p.1 j → listed.getD j false = true := by
        intro j hj
        have gen : ∀ i j, Anc B i j → (∀ e ∈ B i, listed.getD e false = true) → listed.getD j false = true := by
          intro i j h
          induction h with
          | step h => intro hh; exact hh _ h
          | @trans i k j h t ih2 =>
            intro hh
            have hk := hh k h
            refine ih2 fun e he => ?_
            have hkn : k < listed.size := by
              rcases Nat.lt_or_ge k listed.size with h' | h'
              · exact h'
              · simp [Array.getD_eq_getD_getElem?, Array.getElem?_eq_none h'] at hk
            have hok : ops[k]? = some ops[k] := by simp [show k < ops.size by omega]
            rw [hB k _ hok] at he
            exact hdc k _ hok (by rw [getD_lt hkn true false]; exact hk) e he
        exact gen _ _ hj fun e he => hpre e (by rw [hB _ _ ho] at he; exact he)
      have hcl : ∀ y ∈ pre, isLoc y.2.1.op = false ∧ clash y.2 p.2 = false := fun y hy => by
        refine ⟨(hd y (by simp [hy])).1, ?_⟩
        rcases (hpw.2.2 y hy p (by simp)).2 with h | h
        · exfalso
          cases hk : anc[p.1]? with
          | none => simp [List.getD_eq_getElem?_getD, hk] at h
          | some l =>
            simp only [List.getD_eq_getElem?_getD, hk, Option.getD_some] at h
            have h3 := hAnc _ (hanc _ _ hk _ h)
            have h4 := hb y (by simp [hy])
            have hyn : y.1 < listed.size := by
              rcases Nat.lt_or_ge y.1 listed.size with h' | h'
              · exact h'
              · simp [Array.getD_eq_getD_getElem?, Array.getElem?_eq_none h'] at h3
            rw [getD_lt hyn true false, h3] at h4
            cases h4
        · exact h
      have hfront : wpDs gt (AC P gt) (p.2 :: ((pre ++ post).map (·.2))) env S QD := by
        rw [List.map_append]
        refine wpDs_front AC_mono' hQ hNQ hLp (fun y hy => ?_) (pre.map (·.2)) (fun y hy => ?_) env S (by simpa using hw)
        · obtain ⟨q, hq, rfl⟩ := List.mem_map.1 hy
          exact (hd q (by simp [hq])).1
        · obtain ⟨q, hq, rfl⟩ := List.mem_map.1 hy
          exact hcl q hq
      simp only [wpDs] at hfront
      have hstep : afterS (AC P gt) p.2.1.dst env S (fun env' S' => wpDs gt (AC P gt) ((pre ++ post).map (·.2)) env' S' QD) QD (stepI gt p.2.1 env S) := by
        rcases stepD_or (gt := gt) p.2 env S with h | h
        · rw [h] at hfront; exact hfront.elim
        · rw [h] at hfront; exact hfront
      have hii : p.1 < listed.size := by omega
      refine wpOp_row hN ho' hprep hg hstep fun env' S' G' w' a' g' q' => ?_
      refine ih (listed.setIfInBounds p.1 true) (pre ++ post) env' S' G' w' a' (by simp at hf ⊢; omega) (by simpa using hs) (fun q hq => ?_) (fun j hj hl => ?_) (fun q hq => ?_) ?_ (fun j oj hj hl e he2 => ?_) g' q'
      · have hne : p.1 ≠ q.1 := by
          rcases List.mem_append.1 hq with h | h
          · exact fun e => (hpw.2.2 q h p (by simp)).1 e.symm
          · exact (hpw2.1 q h).1
        rw [getD_set hii, if_neg hne]
        refine hb q ?_
        rcases List.mem_append.1 hq with h | h <;> simp [h]
      · rw [getD_set hii] at hl
        by_cases e : p.1 = j
        · rw [if_pos e] at hl; cases hl
        · rw [if_neg e] at hl
          obtain ⟨q, hq, rfl⟩ := hc j hj hl
          refine ⟨q, ?_, rfl⟩
          rcases List.mem_append.1 hq with h | h
          · simp [h]
          · rcases List.mem_cons.1 h with rfl | h
            · exact absurd rfl e
            · simp [h]
      · refine hd q ?_
        rcases List.mem_append.1 hq with h | h <;> simp [h]
      · refine List.pairwise_append.2 ⟨hpw.1, hpw2.2, fun x hx y hy => hpw.2.2 x hx y (by simp [hy])⟩
      · rw [getD_set hii]
        by_cases e2 : p.1 = e
        · rw [if_pos e2]
        · rw [if_neg e2]
          rw [getD_set hii] at hl
          by_cases e3 : p.1 = j
          · subst e3
            rw [ho] at hj
            cases hj
            exact hpre e he2
          · rw [if_neg e3] at hl
            exact hdc j oj hj hl e he2

theorem zipL_get : ∀ {is : List DI} {ls : List (Option Nat)} {k : Nat} {x : DI × Option Nat}, (zipL is ls)[k]? = some x → is[k]? = some x.1
  | [], ls, k, x, h => by simp [zipL] at h
  | i :: is, [], 0, x, h => by simp [zipL] at h; subst h; rfl
  | i :: is, [], k + 1, x, h => by
    simp only [zipL, List.getElem?_cons_succ] at h ⊢
    exact zipL_get h
  | i :: is, l :: ls, 0, x, h => by simp [zipL] at h; subst h; rfl
  | i :: is, l :: ls, k + 1, x, h => by
    simp only [zipL, List.getElem?_cons_succ] at h ⊢
    exact zipL_get h

theorem zipL_length : ∀ (is : List DI) (ls : List (Option Nat)), (zipL is ls).length = is.length
  | [], _ => rfl
  | _ :: is, [] => by simp [zipL, zipL_length is []]
  | _ :: is, _ :: ls => by simp [zipL, zipL_length is ls]

theorem pickRows_get {l : List (DI × Option Nat)} : ∀ {c : List Nat} {rows : List (Nat × DI × Option Nat)}, pickRows l c = some rows → ∀ p ∈ rows, l[p.1]? = some p.2
  | [], rows, h, p, hp => by simp only [pickRows, Option.some.injEq] at h; subst h; cases hp
  | i :: c, rows, h, p, hp => by
    simp only [pickRows] at h
    split at h
    · rename_i x xs h1 h2
      simp only [Option.some.injEq] at h; subst h
      rcases List.mem_cons.1 hp with rfl | hp
      · exact h1
      · exact pickRows_get h2 p hp
    · cases h

theorem pairsOK_get {anc : List (List Nat)} : ∀ {rows : List (Nat × DI × Option Nat)}, pairsOK anc rows = true → rows.Pairwise fun x y => x.1 ≠ y.1 ∧ (x.1 ∈ anc.getD y.1 [] ∨ clash x.2 y.2 = false)
  | [], _ => .nil
  | x :: r, h => by
    simp only [pairsOK, Bool.and_eq_true] at h
    refine .cons (fun y hy => ?_) (pairsOK_get h.2)
    have := List.all_eq_true.1 h.1 y hy
    simp only [Bool.and_eq_true, Bool.not_eq_true', Bool.or_eq_true] at this
    refine ⟨fun e => ?_, ?_⟩
    · rw [e, Nat.beq_refl] at this; cases this.1
    · rcases this.2 with h | h
      · obtain ⟨z, hz, hz2⟩ := List.any_eq_true.1 h
        have := Nat.eq_of_beq_eq_true hz2
        subst this
        exact .inl hz
      · exact .inr h

theorem keepE_eqv {e e' : Env} (h : Eqv e e') : ∀ ks, keepE e ks = keepE e' ks
  | [] => rfl
  | k :: ks => by simp only [keepE, h k, keepE_eqv h ks]

/-- A REGION THAT DRAWS ITS ORDER: THE CANONICAL ORDER STANDS FOR EVERY ORDER. -/
theorem Sd.drw {N : Nat} {id : Nat} {ops : Array Oper} {locs : List Nat} {is : List DI} {anc : List (List Nat)} {ls : List (Option Nat)} {rows : List (Nat × DI × Option Nat)} (hm : P.follows .mixedOrders = true)
    (h : prepIs P N locs false ops ops.toList = some is) (ha : ancs 0 ops.toList [] = some anc) (hr : canonRows (zipL is ls) anc = some rows) (ks : List Nat) : Sd P gt N (.region id ops true) (.drw (rows.map (·.2)) ks) := by
  intro O S G w env a QD hpi hN hg hw
  refine wp_mono (Q := Qc P gt O fun e env S => QD e (keepE env ks) S) (wp_region_any hm ?_) (Qc.mono fun S G w env a e g q => ⟨_, g.keepE ks, q⟩)
  have hg' : Good P gt O S G { w with drawn := w.drawn + 1 } env a := hg.step (Tr.gr hg.inv (Gr.drew w _))
  generalize { w with drawn := w.drawn + 1 } = w' at hg'
  obtain ⟨hlen, hget⟩ := prepIs_get h
  unfold canonRows at hr
  split at hr
  · rename_i rows' hpick
    split at hr
    · rename_i hok
      simp only [Option.some.injEq] at hr; subst hr
      unfold drwOK at hok
      simp only [Bool.and_eq_true] at hok
      obtain ⟨k1, k2, k3, k4⟩ := hok
      have hzl : (zipL is ls).length = ops.size := by rw [zipL_length, hlen]; simp
      rw [hzl] at k1 k3
      have k1 := Nat.le_of_ble_eq_true k1
      let B : Nat → List Nat := fun i => match ops[i]? with
        | some o => bindOn o
        | none => []
      have hB : ∀ (i : Nat) (o : Oper), ops[i]? = some o → B i = bindOn o := fun i o ho => by simp only [B, ho]
      obtain ⟨a1, a2⟩ := ancs_ok (B := B) ops.toList 0 [] anc ha rfl (fun k l hk => by simp at hk) (fun m o hm => by
        rw [Nat.zero_add]; exact hB m o (by simpa using hm))
      refine drw_any (locs := locs) (QD := fun e env S => QD e (keepE env ks) S) hN hB (fun i o ho j hj => by simpa using a1 i o (by simpa using ho) j hj) a2 (fun v S e e' hq => hpi v S _ _ hq) (fun S e e' he hq => by
        rw [← keepE_eqv he ks]; exact hq) ops.size (Array.replicate ops.size false) rows' env S G w' a k1 (by simp) (fun p hp => ?_) (fun i hi _ => ?_) (fun p hp => ?_) (pairsOK_get k2) (fun i o ho hl => ?_) hg' hw
      · have h1 := pickRows_get hpick p hp
        have h2 := (List.getElem?_eq_some_iff.1 h1).1
        rw [hzl] at h2
        simp [Array.getD_eq_getD_getElem?, h2]
      · have := List.all_eq_true.1 k3 i (List.mem_range.2 hi)
        obtain ⟨p, hp, hpe⟩ := List.any_eq_true.1 this
        exact ⟨p, hp, Nat.eq_of_beq_eq_true hpe⟩
      · refine ⟨?_, ?_⟩
        · have := List.all_eq_true.1 k4 p hp
          simpa using this
        · have h1 := zipL_get (pickRows_get hpick p hp)
          obtain ⟨o, ho, hpr⟩ := hget p.1 p.2.1 h1
          exact ⟨o, by simpa using ho, hpr⟩
      · have hi : i < ops.size := (Array.getElem?_eq_some_iff.1 ho).1
        simp [Array.getD_eq_getD_getElem?, hi] at hl
    · cases hr
  · cases hr
end
end Go.Dn
