/- Regions that draw their order: the canonical order stands for every order. -/
import Derived.Test.YtinhgnepnkbpcaaGreatDoorDnDc
set_option linter.unusedSimpArgs false
set_option linter.unusedVariables false
namespace Go.Dn
open Go Go.RowKit

section
variable {gt : GT} {C : CallT}

theorem afterS_mono (hm : MonoC C) {dst : Option Nat} {env : Env} {S : St} {K K' : Env → St → Prop} {Q : Ex → Env → St → Prop} {r : SR} (hk : ∀ e S, K e S → K' e S) (h : afterS C dst env S K Q r) : afterS C dst env S K' Q r := by
  cases r with
  | fail => exact h
  | done e s => exact hk _ _ h
  | pan v => exact h
  | call f xs =>
    refine hm _ _ _ _ _ h fun r S' hr => ?_
    cases r with
    | ret v => exact hk _ _ hr
    | pan v => exact hr

theorem Eqv.app {e e' : Env} (h : Eqv e e') (ws : List (Nat × Ent)) : Eqv (ws ++ e) (ws ++ e') := ⟨fun n => by rw [lk_app, lk_app, h.lk n], fun d => by rw [noAdr_app, noAdr_app, h.na d]⟩

/-- what is looked at again are rows that read -/
def OkR (i : DRow) : Prop := ∀ z ∈ i.2, effO z.2 z.1.op = .reads

theorem stab_eqv {cs : List (DI × Option Nat)} (hr : ∀ z ∈ cs, effO z.2 z.1.op = .reads) {e e' : Env} {S : St} (h : Eqv e e') (hs : stab gt cs e S = true) : stab gt cs e' S = true :=
  List.all_eq_true.2 fun z hz => stays_agr (reads_noLoc (hr z hz)) (fun n _ => h.lk n) (stab_mem hs hz)

theorem stab_sub {cs cs' : List (DI × Option Nat)} (h : ∀ z ∈ cs', z ∈ cs) {e : Env} {S : St} (hs : stab gt cs e S = true) : stab gt cs' e S = true :=
  List.all_eq_true.2 fun z hz => stab_mem hs (h z hz)

theorem wpDs_eqv (hm : MonoC C) {Q : Ex → Env → St → Prop} (hQ : ∀ v S e e', Q (.pan v) e S → Q (.pan v) e' S) (hN : ∀ S e e', Eqv e e' → Q .normal e S → Q .normal e' S) : ∀ (l : List DRow), (∀ x ∈ l, OkR x) → ∀ e e' S, Eqv e e' → wpDs gt C l e S Q → wpDs gt C l e' S Q
  | [], _, e, e', S, h, H => hN _ _ _ h H
  | x :: l, hL, e, e', S, h, H => by
    have ih := wpDs_eqv hm hQ hN l fun y hy => hL y (by simp [hy])
    have hr := hL x (by simp)
    simp only [wpDs] at H ⊢
    have hp := stepD_par (gt := gt) (i := x.1) (S := S) (e1 := e) (e2 := e') (fun d _ _ => h.na d) fun n _ => h.lk n
    cases h1 : stepD gt x.1 e S with
    | fail => rw [h1] at H; exact H.elim
    | done a s =>
      rw [h1] at H hp
      cases h2 : stepD gt x.1 e' S with
      | done b t =>
        rw [h2] at hp
        obtain ⟨rfl, ws, rfl, rfl, _⟩ := hp
        exact ⟨stab_eqv hr (h.app ws) H.1, ih _ _ _ (h.app ws) H.2⟩
      | fail => rw [h2] at hp; exact hp.elim
      | call f xs => rw [h2] at hp; exact hp.elim
      | pan v => rw [h2] at hp; exact hp.elim
    | call f xs =>
      rw [h1] at H hp
      cases h2 : stepD gt x.1 e' S with
      | call f2 xs2 =>
        rw [h2] at hp
        obtain ⟨rfl, rfl⟩ := hp
        refine hm _ _ _ _ _ H fun r S' hr2 => ?_
        cases r with
        | ret v =>
          simp only at hr2 ⊢
          rw [putV_pw] at hr2 ⊢
          exact ⟨stab_eqv hr (h.app _) hr2.1, ih _ _ _ (h.app _) hr2.2⟩
        | pan v => exact hQ _ _ _ _ hr2
      | fail => rw [h2] at hp; exact hp.elim
      | done b t => rw [h2] at hp; exact hp.elim
      | pan v => rw [h2] at hp; exact hp.elim
    | pan v =>
      rw [h1] at H hp
      cases h2 : stepD gt x.1 e' S with
      | pan u =>
        rw [h2] at hp
        have : v = u := hp
        subst this
        exact hQ _ _ _ _ H
      | fail => rw [h2] at hp; exact hp.elim
      | done b t => rw [h2] at hp; exact hp.elim
      | call f xs => rw [h2] at hp; exact hp.elim

/-- a row is brought to the front -/
theorem wpDs_front (hm : MonoC C) {Q : Ex → Env → St → Prop} (hQ : ∀ v S e e', Q (.pan v) e S → Q (.pan v) e' S) (hN : ∀ S e e', Eqv e e' → Q .normal e S → Q .normal e' S) {sf : Nat → Bool} {x : DI × Option Nat} {cx : List (DI × Option Nat)} {post : List DRow} (hpost : ∀ y ∈ post, OkR y) :
    ∀ (pre : List (Nat × DRow)) (c : List (DI × Option Nat)), (∀ y ∈ pre, OkR y.2 ∧ (y.2.2 = [] ∨ effO y.2.1.2 y.2.1.1.op = .acts) ∧ (clash y.2.1 x = false ∨ (softC y.2.1 x = true ∧ y.2.1 ∈ cx ∧ sf y.1 = true ∧ meets (writesI y.2.1) (readsI y.2.1) = false))) →
      (pre.Pairwise fun a b => sf a.1 = true → meets (writesI b.2.1) (readsI a.2.1 ++ writesI a.2.1) = false) →
      (∀ z ∈ c, z ∈ cx ∧ effO z.2 z.1.op = .reads ∧ ∀ y ∈ pre, meets (writesI y.2.1) (readsI z ++ writesI z) = false) →
      ∀ env S, wpDs gt C (pre.map (·.2) ++ (x, cx) :: post) env S Q → wpDs gt C ((x, c) :: (pre.map (·.2) ++ post)) env S Q
  | [], c, _, _, hc, env, S, H => by
    simp only [List.map_nil, List.nil_append, wpDs] at H ⊢
    exact afterS_mono hm (fun e1 S1 h => ⟨stab_sub (fun z hz => (hc z hz).1) h.1, h.2⟩) H
  | y :: pre, c, hp, hpw, hc, env, S, H => by
    obtain ⟨hy1, hy2, hy3⟩ := hp y (by simp)
    have hpw2 := List.pairwise_cons.1 hpw
    have main : ∀ c' : List (DI × Option Nat), (∀ z ∈ c', z ∈ cx ∧ effO z.2 z.1.op = .reads ∧ ∀ y' ∈ pre, meets (writesI y'.2.1) (readsI z ++ writesI z) = false) → (∀ z ∈ c, z ∈ c') →
        (clash y.2.1 x = false ∨ (softC y.2.1 x = true ∧ y.2.1 ∈ c' ∧ meets (writesI y.2.1) (readsI y.2.1) = false)) → wpDs gt C ((x, c) :: ((y :: pre).map (·.2) ++ post)) env S Q := by
      intro c' hc' hcc hcl
      have ih := wpDs_front hm hQ hN (x := x) (cx := cx) (sf := sf) hpost pre c' (fun z hz => hp z (by simp [hz])) hpw2.2 hc'
      have h1 : afterS C y.2.1.1.dst env S (fun e1 S1 => stab gt y.2.2 e1 S1 = true ∧ afterS C x.1.dst e1 S1 (fun e2 S2 => stab gt c' e2 S2 = true ∧ wpDs gt C (pre.map (·.2) ++ post) e2 S2 Q) Q (stepD gt x e1 S1)) Q (stepD gt y.2.1 env S) :=
        afterS_mono hm (fun e1 S1 h => ⟨h.1, ih e1 S1 h.2⟩) H
      have hall : ∀ z ∈ pre.map (·.2) ++ post, OkR z := fun z hz => by
        rcases List.mem_append.1 hz with h | h
        · obtain ⟨q, hq, rfl⟩ := List.mem_map.1 h
          exact (hp q (by simp [hq])).1
        · exact hpost z h
      exact swapD hm hcl hy2 (fun z hz => ⟨hcc z hz, (hc z hz).2.2 y (by simp), (hc z hz).2.1⟩) (fun e e' S he h => wpDs_eqv hm hQ hN _ hall _ _ _ he h) hQ h1
    rcases hy3 with h | ⟨h1, h2, h3, h4⟩
    · exact main c (fun z hz => ⟨(hc z hz).1, (hc z hz).2.1, fun y' hy' => (hc z hz).2.2 y' (by simp [hy'])⟩) (fun z hz => hz) (.inl h)
    · refine main (y.2.1 :: c) (fun z hz => ?_) (fun z hz => List.mem_cons_of_mem _ hz) (.inr ⟨h1, List.mem_cons_self .., h4⟩)
      rcases List.mem_cons.1 hz with rfl | hz
      · refine ⟨h2, ?_, fun y' hy' => hpw2.1 y' hy' h3⟩
        unfold softC at h1
        simp only [Bool.and_eq_true] at h1
        cases he : effO y.2.1.2 y.2.1.1.op with
        | reads => rfl
        | pure => rw [he] at h1; simp [isReads] at h1
        | acts => rw [he] at h1; simp [isReads] at h1
      · exact ⟨(hc z hz).1, (hc z hz).2.1, fun y' hy' => (hc z hz).2.2 y' (by simp [hy'])⟩

/-- what must lie ahead of a row -/
inductive Anc (B : Nat → List Nat) : Nat → Nat → Prop
  | step {i j : Nat} (h : j ∈ B i) : Anc B i j
  | trans {i k j : Nat} (h : k ∈ B i) (t : Anc B k j) : Anc B i j

theorem ancs_ok {B : Nat → List Nat} : ∀ (rest : List Oper) (i : Nat) (acc anc : List (List Nat)), ancs i rest acc = some anc → acc.length = i → (∀ k l, acc[k]? = some l → ∀ j ∈ l, Anc B k j) → (∀ m o, rest[m]? = some o → B (i + m) = bindOn o) →
    (∀ m o, rest[m]? = some o → ∀ j ∈ bindOn o, j < i + m) ∧ ∀ k l, anc[k]? = some l → ∀ j ∈ l, Anc B k j
  | [], i, acc, anc, h, _, ha, _ => by
    simp only [ancs, Option.some.injEq] at h; subst h
    exact ⟨fun m o hm => by simp at hm, ha⟩
  | o :: rest, i, acc, anc, h, hl, ha, hB => by
    simp only [ancs] at h
    split at h
    · rename_i hd
      have hBi : B i = bindOn o := by simpa using hB 0 o rfl
      have hlt : ∀ j ∈ bindOn o, j < i := fun j hj => blt_lt (List.all_eq_true.1 hd j hj)
      obtain ⟨g1, g2⟩ := ancs_ok rest (i + 1) _ anc h (by simp [hl]) (fun k l hk j hj => by
        by_cases hki : k < acc.length
        · rw [List.getElem?_append_left hki] at hk
          exact ha k l hk j hj
        · rw [List.getElem?_append_right (by omega)] at hk
          have hk0 : k = i := by
            have := (List.getElem?_eq_some_iff.1 hk).1
            simp at this
            omega
          subst hk0
          rw [hl, Nat.sub_self] at hk
          simp only [List.getElem?_cons_zero, Option.some.injEq] at hk
          subst hk
          obtain ⟨_, hj2⟩ := List.mem_filter.1 hj
          obtain ⟨q, hq, hq2⟩ := List.any_eq_true.1 hj2
          simp only [Bool.or_eq_true] at hq2
          rcases hq2 with hq2 | hq2
          · have := Nat.eq_of_beq_eq_true hq2
            subst this
            exact .step (by rw [hBi]; exact hq)
          · obtain ⟨z, hz, hz2⟩ := List.any_eq_true.1 hq2
            have := Nat.eq_of_beq_eq_true hz2
            subst this
            cases hg : acc[q]? with
            | none => simp [List.getD_eq_getElem?_getD, hg] at hz
            | some l' =>
              simp only [List.getD_eq_getElem?_getD, hg, Option.getD_some] at hz
              exact .trans (by rw [hBi]; exact hq) (ha q l' hg _ hz)) (fun m o' hm => by
        have := hB (m + 1) o' (by simpa using hm)
        rw [← this]; congr 1; omega)
      refine ⟨fun m o' hm j hj => ?_, g2⟩
      cases m with
      | zero => simp at hm; subst hm; simpa using hlt j hj
      | succ m =>
        have := g1 m o' (by simpa using hm) j hj
        omega
    · cases h
end

section
variable {P : Program} {gt : GT} {O : Orig}

theorem prepIs_get {N : Lim} {locs : List Nat} {tk : Bool} {ops : Array Oper} : ∀ {rest : List Oper} {is : List DI}, prepIs P N locs tk ops rest = some is →
    is.length = rest.length ∧ ∀ (k : Nat) (i : DI), is[k]? = some i → ∃ o, rest[k]? = some o ∧ prepI P N locs tk ops o = some i
  | [], is, h => by
    simp only [prepIs, Option.some.injEq] at h; subst h
    exact ⟨rfl, fun k i hk => by simp at hk⟩
  | o :: rest, is, h => by
    simp only [prepIs] at h
    split at h
    · rename_i i is' h1 h2
      simp only [Option.some.injEq] at h; subst h
      obtain ⟨g1, g2⟩ := prepIs_get h2
      refine ⟨by simp [g1], fun k j hk => ?_⟩
      cases k with
      | zero => simp at hk; subst hk; exact ⟨o, rfl, h1⟩
      | succ k => simpa using g2 k j (by simpa using hk)
    · cases h

/-- one row, in whatever order -/
theorem wpOp_row {ops : Array Oper} {N : Lim} (hN : O.N = N) {locs : List Nat} {tk : Bool} {k : Nat} {o : Oper} {i : DI} (ho : ops[k]? = some o) (hp : prepI P N locs tk ops o = some i) {S : St} {G : Gh} {w : World} {env : Env} {a : Act} (hg : Good P gt O S G w env a)
    {QD : Ex → Env → St → Prop} {K : Env → St → Prop} {next : Act → World → Prop} (ha : afterS (AC P gt) i.dst env S K QD (stepI gt i env S)) (hn : ∀ env' S' G' w' a', Good P gt O S' G' w' env' a' → K env' S' → next a' w') : wpOp P ops (Qc P gt O QD) k next a w := by
  unfold wpOp
  rw [ho]
  simp only
  have := stepI_ok (o := o) hg hN hp ha hn
  split at this
  · rename_i hwt; rw [if_pos hwt]; exact .inl this
  · rename_i hwt; rw [if_neg hwt]; exact this


theorem AC_mono' : MonoC (AC P gt) := fun f xs S Q Q' h hq =>
  ⟨h.1, fun G w args hI hx => Calls.mono (h.2 G w args hI hx) fun e w' hp => by
    cases e with
    | returned v => obtain ⟨x, S', G', q, t, r⟩ := hp; exact ⟨x, S', G', hq _ _ q, t, r⟩
    | panicked chain => obtain ⟨x, S', G', u, hc, q, t, r⟩ := hp; exact ⟨x, S', G', u, hc, hq _ _ q, t, r⟩
    | outgrown => exact hp.elim⟩

theorem kill_noAdr {d : Nat} : ∀ {env : Env}, noAdr d env = true → kill d env = env
  | [], _ => rfl
  | (k, e) :: r, h => by
    simp only [noAdr, List.all_cons, Bool.and_eq_true] at h
    have ih := kill_noAdr (d := d) (env := r) h.2
    cases e with
    | adr t o =>
      have h1 := h.1
      simp only [Bool.not_eq_true'] at h1
      simp only [kill, h1, cond_false, ih]
    | val x => simp only [kill, ih]
    | box cs => simp only [kill, ih]
    | unk => simp only [kill, ih]

theorem stepDO_or (i : DI × Option Nat) (env : Env) (S : St) : stepDO gt i env S = .fail ∨ stepDO gt i env S = stepO gt i.1.dst env S i.1.op := by
  unfold stepDO
  cases hL : isLoc i.1.op with
  | false =>
    cases conform i.2 env i.1.op with
    | true => exact .inr rfl
    | false => exact .inl rfl
  | true =>
    simp only [cond_true]
    cases hop : i.1.op <;> rw [hop] at hL <;> first | (cases hL; done) | skip
    · simp only [stepL, stepO]
      cases i.1.dst with
      | none => exact .inl rfl
      | some d =>
        cases hn : noAdr d env with
        | false => refine .inl ?_; simp only [hn, cond_false]
        | true => refine .inr ?_; simp only [hn, cond_true, kill_noAdr hn]
    · rename_i x
      simp only [stepL, stepO]
      cases i.1.dst with
      | none => exact .inl rfl
      | some d =>
        cases opd env x with
        | none => exact .inl rfl
        | some v =>
          cases hn : noAdr d env with
          | false => refine .inl ?_; simp only [hn, cond_false]
          | true => refine .inr ?_; simp only [hn, cond_true, kill_noAdr hn]

theorem stepD_or (i : DI × Option Nat) (env : Env) (S : St) : stepD gt i env S = .fail ∨ stepD gt i env S = stepI gt i.1 env S := by
  have main := stepDO_or (gt := gt) i env S
  unfold stepD stepI
  cases i.1.guard with
  | none => exact main
  | some gw =>
    obtain ⟨g, want⟩ := gw
    simp only
    split
    · rename_i b hb
      cases b == want with
      | false => exact .inr rfl
      | true => exact main
    · exact .inr rfl
    · exact .inr rfl

theorem all_bind (o : Oper) (L : Nat → Bool) : (o.after.all fun e => !Region.binds .any e || L e.on) = (bindOn o).all L := by
  unfold bindOn
  rw [← Array.all_toList, List.all_map, List.all_filter]
  congr 1

theorem ready_mem {ops : Array Oper} {listed : Array Bool} {i : Nat} : i ∈ Region.ready .any ops listed ↔ i < ops.size ∧ listed.getD i true = false ∧ ∃ o, ops[i]? = some o ∧ ∀ e ∈ bindOn o, listed.getD e false = true := by
  unfold Region.ready
  rw [List.mem_filter, List.mem_range, Bool.and_eq_true, Bool.not_eq_true']
  refine and_congr Iff.rfl (and_congr Iff.rfl ?_)
  cases ho : ops[i]? with
  | none => simp
  | some o =>
    simp only [Option.map_some, Option.getD_some, Option.some.injEq, exists_eq_left']
    rw [all_bind o (listed.getD · false), List.all_eq_true]

theorem getD_set {l : Array Bool} {i j : Nat} {d : Bool} (hi : i < l.size) : (l.setIfInBounds i true).getD j d = if i = j then true else l.getD j d := by
  simp only [Array.getD_eq_getD_getElem?, Array.getElem?_setIfInBounds]
  by_cases h : i = j
  · subst h; simp [hi]
  · simp [h]

theorem getD_lt {l : Array Bool} {i : Nat} (hi : i < l.size) (d d' : Bool) : l.getD i d = l.getD i d' := by
  simp [Array.getD_eq_getD_getElem?, hi]

theorem drw_any {N : Lim} (hN : O.N = N) {ops : Array Oper} {locs : List Nat} {B : Nat → List Nat} (hB : ∀ (i : Nat) (o : Oper), ops[i]? = some o → B i = bindOn o) (hBlt : ∀ (i : Nat) (o : Oper), ops[i]? = some o → ∀ j ∈ bindOn o, j < i)
    {anc : List (List Nat)} (hanc : ∀ (k : Nat) (l : List Nat), anc[k]? = some l → ∀ j ∈ l, Anc B k j) {QD : Ex → Env → St → Prop} (hQ : ∀ v S e e', QD (.pan v) e S → QD (.pan v) e' S) (hNQ : ∀ S e e', Eqv e e' → QD .normal e S → QD .normal e' S) {sf : Nat → Bool} :
    ∀ (fuel : Nat) (listed : Array Bool) (rem : List (Nat × DRow)) (env : Env) (S : St) (G : Gh) (w : World) (a : Act), rem.length ≤ fuel → listed.size = ops.size →
      (∀ p ∈ rem, listed.getD p.1 true = false) → (∀ i, i < ops.size → listed.getD i true = false → ∃ p ∈ rem, p.1 = i) →
      (∀ p ∈ rem, (OkR p.2 ∧ (p.2.2 = [] ∨ effO p.2.1.2 p.2.1.1.op = .acts) ∧ (sf p.1 = true → meets (writesI p.2.1) (readsI p.2.1) = false)) ∧ ∃ o, ops[p.1]? = some o ∧ prepI P N locs false ops o = some p.2.1.1) →
      rem.Pairwise (fun x y => x.1 ≠ y.1 ∧ (x.1 ∈ anc.getD y.1 [] ∨ clash x.2.1 y.2.1 = false ∨ (softC x.2.1 y.2.1 = true ∧ x.2.1 ∈ y.2.2 ∧ sf x.1 = true)) ∧ (sf x.1 = true → meets (writesI y.2.1) (readsI x.2.1 ++ writesI x.2.1) = false)) →
      (∀ (i : Nat) (o : Oper), ops[i]? = some o → listed.getD i true = true → ∀ e ∈ bindOn o, listed.getD e false = true) →
      Good P gt O S G w env a → wpDs gt (AC P gt) (rem.map (·.2)) env S QD → wpAny P .any ops (Qc P gt O QD) fuel listed a w := by
  intro fuel
  -- where nothing is ready, nothing is left
  have empty : ∀ (listed : Array Bool) (rem : List (Nat × DRow)), listed.size = ops.size → (∀ p ∈ rem, listed.getD p.1 true = false) → (∀ p ∈ rem, ∃ o, ops[p.1]? = some o) → Region.ready .any ops listed = [] → rem = [] := by
    intro listed rem hs hb hd hr
    have all : ∀ i, i < ops.size → listed.getD i true = true := by
      intro i
      induction i using Nat.strongRecOn with
      | _ i ih =>
        intro hi
        cases hl : listed.getD i true with
        | true => rfl
        | false =>
          have : i ∈ Region.ready .any ops listed := ready_mem.2 ⟨hi, hl, ops[i], by simp [hi], fun e he => by
            have hei := hBlt i ops[i] (by simp [hi]) e he
            rw [getD_lt (by omega) false true]
            exact ih e hei (by omega)⟩
          rw [hr] at this
          cases this
    cases rem with
    | nil => rfl
    | cons p r =>
      obtain ⟨o, ho⟩ := hd p (by simp)
      have := all p.1 (by rw [Array.getElem?_eq_some_iff] at ho; exact ho.1)
      rw [hb p (by simp)] at this
      cases this
  induction fuel with
  | zero =>
    intro listed rem env S G w a hf hs hb hc hd he hdc hg hw
    have hr : rem = [] := List.length_eq_zero_iff.1 (by omega)
    subst hr
    refine ⟨?_, env, S, G, hg, hw⟩
    cases hrd : Region.ready .any ops listed with
    | nil => rfl
    | cons i r =>
      have hi : i ∈ Region.ready .any ops listed := by rw [hrd]; simp
      obtain ⟨h1, h2, _⟩ := ready_mem.1 hi
      obtain ⟨p, hp, _⟩ := hc i h1 h2
      cases hp
  | succ fuel ih =>
    intro listed rem env S G w a hf hs hb hc hd he hdc hg hw
    refine ⟨fun hr => ?_, fun i hi => ?_⟩
    · have := empty listed rem hs hb (fun p hp => (hd p hp).2.imp fun o h => h.1) hr
      subst this
      exact ⟨env, S, G, hg, hw⟩
    · obtain ⟨h1, h2, o, ho, hpre⟩ := ready_mem.1 hi
      obtain ⟨p, hp, rfl⟩ := hc i h1 h2
      obtain ⟨pre, post, rfl⟩ := List.append_of_mem hp
      obtain ⟨_, o', ho', hprep⟩ := hd p (by simp)
      have hpw := List.pairwise_append.1 he
      have hpw2 := List.pairwise_cons.1 hpw.2.1
      have hAnc : ∀ j, Anc B p.1 j → listed.getD j false = true := by
        intro j hj
        have gen : ∀ i j, Anc B i j → (∀ e ∈ B i, listed.getD e false = true) → listed.getD j false = true := by
          intro i j h
          induction h with
          | step h => intro hh; exact hh _ h
          | @trans i k j h t ih2 =>
            intro hh
            have hk := hh k h
            refine ih2 fun e he => ?_
            have hkn : k < listed.size := by
              rcases Nat.lt_or_ge k listed.size with h' | h'
              · exact h'
              · simp [Array.getD_eq_getD_getElem?, Array.getElem?_eq_none h'] at hk
            have hok : ops[k]? = some ops[k] := by simp [show k < ops.size by omega]
            rw [hB k _ hok] at he
            exact hdc k _ hok (by rw [getD_lt hkn true false]; exact hk) e he
        exact gen _ _ hj fun e he => hpre e (by rw [hB _ _ ho] at he; exact he)
      have hcl : ∀ y ∈ pre, OkR y.2 ∧ (y.2.2 = [] ∨ effO y.2.1.2 y.2.1.1.op = .acts) ∧ (clash y.2.1 p.2.1 = false ∨ (softC y.2.1 p.2.1 = true ∧ y.2.1 ∈ p.2.2 ∧ sf y.1 = true ∧ meets (writesI y.2.1) (readsI y.2.1) = false)) := fun y hy => by
        obtain ⟨⟨k1, k2, k3⟩, _⟩ := hd y (by simp [hy])
        refine ⟨k1, k2, ?_⟩
        rcases (hpw.2.2 y hy p (by simp)).2.1 with h | h | ⟨h1, h2, h3⟩
        · exfalso
          cases hk : anc[p.1]? with
          | none => simp [List.getD_eq_getElem?_getD, hk] at h
          | some l =>
            simp only [List.getD_eq_getElem?_getD, hk, Option.getD_some] at h
            have h3 := hAnc _ (hanc _ _ hk _ h)
            have h4 := hb y (by simp [hy])
            have hyn : y.1 < listed.size := by
              rcases Nat.lt_or_ge y.1 listed.size with h' | h'
              · exact h'
              · simp [Array.getD_eq_getD_getElem?, Array.getElem?_eq_none h'] at h3
            rw [getD_lt hyn true false, h3] at h4
            cases h4
        · exact .inl h
        · exact .inr ⟨h1, h2, h3, k3 h3⟩
      have hfront : wpDs gt (AC P gt) ((p.2.1, []) :: ((pre ++ post).map (·.2))) env S QD := by
        rw [List.map_append]
        refine wpDs_front AC_mono' hQ hNQ (x := p.2.1) (cx := p.2.2) (sf := sf) (fun y hy => ?_) pre [] hcl (hpw.1.imp fun h => h.2.2) (fun z hz => by cases hz) env S (by simpa using hw)
        obtain ⟨q, hq, rfl⟩ := List.mem_map.1 hy
        exact (hd q (by simp [hq])).1.1
      simp only [wpDs] at hfront
      have hstep : afterS (AC P gt) p.2.1.1.dst env S (fun env' S' => wpDs gt (AC P gt) ((pre ++ post).map (·.2)) env' S' QD) QD (stepI gt p.2.1.1 env S) := by
        have hfront := afterS_mono AC_mono' (fun e S h => h.2) hfront
        rcases stepD_or (gt := gt) p.2.1 env S with h | h
        · rw [h] at hfront; exact hfront.elim
        · rw [h] at hfront; exact hfront
      have hii : p.1 < listed.size := by omega
      refine wpOp_row hN ho' hprep hg hstep fun env' S' G' w' a' g' q' => ?_
      refine ih (listed.setIfInBounds p.1 true) (pre ++ post) env' S' G' w' a' (by simp at hf ⊢; omega) (by simpa using hs) (fun q hq => ?_) (fun j hj hl => ?_) (fun q hq => ?_) ?_ (fun j oj hj hl e he2 => ?_) g' q'
      · have hne : p.1 ≠ q.1 := by
          rcases List.mem_append.1 hq with h | h
          · exact fun e => (hpw.2.2 q h p (by simp)).1 e.symm
          · exact (hpw2.1 q h).1
        rw [getD_set hii, if_neg hne]
        refine hb q ?_
        rcases List.mem_append.1 hq with h | h <;> simp [h]
      · rw [getD_set hii] at hl
        by_cases e : p.1 = j
        · rw [if_pos e] at hl; cases hl
        · rw [if_neg e] at hl
          obtain ⟨q, hq, rfl⟩ := hc j hj hl
          refine ⟨q, ?_, rfl⟩
          rcases List.mem_append.1 hq with h | h
          · simp [h]
          · rcases List.mem_cons.1 h with rfl | h
            · exact absurd rfl e
            · simp [h]
      · refine hd q ?_
        rcases List.mem_append.1 hq with h | h <;> simp [h]
      · refine List.pairwise_append.2 ⟨hpw.1, hpw2.2, fun x hx y hy => hpw.2.2 x hx y (by simp [hy])⟩
      · rw [getD_set hii]
        by_cases e2 : p.1 = e
        · rw [if_pos e2]
        · rw [if_neg e2]
          rw [getD_set hii] at hl
          by_cases e3 : p.1 = j
          · subst e3
            rw [ho] at hj
            cases hj
            exact hpre e he2
          · rw [if_neg e3] at hl
            exact hdc j oj hj hl e he2

theorem zipL_get : ∀ {is : List DI} {ls : List (Option Nat)} {k : Nat} {x : DI × Option Nat}, (zipL is ls)[k]? = some x → is[k]? = some x.1
  | [], ls, k, x, h => by simp [zipL] at h
  | i :: is, [], 0, x, h => by simp [zipL] at h; subst h; rfl
  | i :: is, [], k + 1, x, h => by
    simp only [zipL, List.getElem?_cons_succ] at h ⊢
    exact zipL_get h
  | i :: is, l :: ls, 0, x, h => by simp [zipL] at h; subst h; rfl
  | i :: is, l :: ls, k + 1, x, h => by
    simp only [zipL, List.getElem?_cons_succ] at h ⊢
    exact zipL_get h

theorem zipL_length : ∀ (is : List DI) (ls : List (Option Nat)), (zipL is ls).length = is.length
  | [], _ => rfl
  | _ :: is, [] => by simp [zipL, zipL_length is []]
  | _ :: is, _ :: ls => by simp [zipL, zipL_length is ls]

theorem pickRows_get {l : List (DI × Option Nat)} : ∀ {c : List Nat} {rows : List (Nat × DI × Option Nat)}, pickRows l c = some rows → ∀ p ∈ rows, l[p.1]? = some p.2
  | [], rows, h, p, hp => by simp only [pickRows, Option.some.injEq] at h; subst h; cases hp
  | i :: c, rows, h, p, hp => by
    simp only [pickRows] at h
    split at h
    · rename_i x xs h1 h2
      simp only [Option.some.injEq] at h; subst h
      rcases List.mem_cons.1 hp with rfl | hp
      · exact h1
      · exact pickRows_get h2 p hp
    · cases h

theorem softP_reads {anc : List (List Nat)} {z y : Nat × DI × Option Nat} (h : softP anc z y = true) : effO z.2.2 z.2.1.op = .reads ∧ effO y.2.2 y.2.1.op = .acts := by
  unfold softP softC at h
  simp only [Bool.and_eq_true] at h
  refine ⟨?_, ?_⟩
  · cases he : effO z.2.2 z.2.1.op with
    | reads => rfl
    | pure => rw [he] at h; simp [isReads] at h
    | acts => rw [he] at h; simp [isReads] at h
  · cases he : effO y.2.2 y.2.1.op with
    | acts => rfl
    | pure => rw [he] at h; simp [isActs] at h
    | reads => rw [he] at h; simp [isActs] at h

theorem chk_reads {anc : List (List Nat)} {all : List (Nat × DI × Option Nat)} {y : Nat × DI × Option Nat} : OkR (y.2, chkOf anc all y) ∧ ((chkOf anc all y) = [] ∨ effO y.2.2 y.2.1.op = .acts) := by
  refine ⟨fun z hz => ?_, ?_⟩
  · obtain ⟨q, hq, rfl⟩ := List.mem_map.1 hz
    exact (softP_reads (List.mem_filter.1 hq).2).1
  · cases h : chkOf anc all y with
    | nil => exact .inl rfl
    | cons z r =>
      have : z ∈ chkOf anc all y := by rw [h]; simp
      obtain ⟨q, hq, rfl⟩ := List.mem_map.1 this
      exact .inr (softP_reads (List.mem_filter.1 hq).2).2

/-- which rows are looked at again -/
def sfOf (anc : List (List Nat)) (all : List (Nat × DI × Option Nat)) (i : Nat) : Bool := all.any fun z => Nat.beq z.1 i && isSoft anc all z

theorem pairsOK_ids {anc : List (List Nat)} {all : List (Nat × DI × Option Nat)} : ∀ {rows : List (Nat × DI × Option Nat)}, pairsOK anc all rows = true → rows.Pairwise fun x y => x.1 ≠ y.1
  | [], _ => .nil
  | x :: r, h => by
    simp only [pairsOK, Bool.and_eq_true] at h
    refine .cons (fun y hy => ?_) (pairsOK_ids h.2.2)
    have := List.all_eq_true.1 h.1 y hy
    simp only [Bool.and_eq_true, Bool.not_eq_true'] at this
    intro e
    rw [e, Nat.beq_refl] at this
    cases this.1

theorem ids_inj {rows : List (Nat × DI × Option Nat)} (h : rows.Pairwise fun x y => x.1 ≠ y.1) : ∀ {x y}, x ∈ rows → y ∈ rows → x.1 = y.1 → x = y := by
  induction h with
  | nil => intro x y hx; cases hx
  | @cons a l h1 _ ih =>
    intro x y hx hy e
    rcases List.mem_cons.1 hx with hxa | hxl
    · rcases List.mem_cons.1 hy with hya | hyl
      · rw [hxa, hya]
      · rw [hxa] at e; exact absurd e (h1 y hyl)
    · rcases List.mem_cons.1 hy with hya | hyl
      · rw [hya] at e; exact absurd e.symm (h1 x hxl)
      · exact ih hxl hyl e

theorem pairsOK_get {anc : List (List Nat)} {all : List (Nat × DI × Option Nat)} (hids : all.Pairwise fun x y => x.1 ≠ y.1) : ∀ {rows : List (Nat × DI × Option Nat)}, (∀ x ∈ rows, x ∈ all) → pairsOK anc all rows = true →
    (rows.Pairwise fun x y => x.1 ≠ y.1 ∧ (x.1 ∈ anc.getD y.1 [] ∨ clash x.2 y.2 = false ∨ (softC x.2 y.2 = true ∧ x.2 ∈ chkOf anc all y ∧ sfOf anc all x.1 = true)) ∧ (sfOf anc all x.1 = true → meets (writesI y.2) (readsI x.2 ++ writesI x.2) = false)) ∧
    ∀ x ∈ rows, sfOf anc all x.1 = true → meets (writesI x.2) (readsI x.2) = false
  | [], _, _ => ⟨.nil, fun x hx => by cases hx⟩
  | x :: r, hin, h => by
    simp only [pairsOK, Bool.and_eq_true] at h
    obtain ⟨ih1, ih2⟩ := pairsOK_get hids (rows := r) (fun y hy => hin y (by simp [hy])) h.2.2
    have hsx : sfOf anc all x.1 = true → isSoft anc all x = true := fun hs => by
      obtain ⟨z, hz, hz2⟩ := List.any_eq_true.1 hs
      simp only [Bool.and_eq_true] at hz2
      have := ids_inj hids hz (hin x (by simp)) (Nat.eq_of_beq_eq_true hz2.1)
      subst this
      exact hz2.2
    refine ⟨.cons (fun y hy => ?_) ih1, fun z hz hs => ?_⟩
    · have := List.all_eq_true.1 h.1 y hy
      simp only [Bool.and_eq_true, Bool.not_eq_true', Bool.or_eq_true] at this
      obtain ⟨t1, t2, t3⟩ := this
      refine ⟨fun e => ?_, ?_, fun hs => ?_⟩
      · rw [e, Nat.beq_refl] at t1; cases t1
      · by_cases hA : (anc.getD y.1 []).any (Nat.beq x.1) = true
        · obtain ⟨z, hz, hz2⟩ := List.any_eq_true.1 hA
          have := Nat.eq_of_beq_eq_true hz2
          subst this
          exact .inl hz
        · rcases t2 with h | h | h
          · exact absurd h hA
          · exact .inr (.inl h)
          · have hP : softP anc x y = true := h
            have h : softC x.2 y.2 = true := by
              unfold softP at h
              simp only [Bool.and_eq_true] at h
              exact h.2.2
            refine .inr (.inr ⟨h, ?_, ?_⟩)
            · exact List.mem_map.2 ⟨x, List.mem_filter.2 ⟨hin x (by simp), hP⟩, rfl⟩
            · refine List.any_eq_true.2 ⟨x, hin x (by simp), ?_⟩
              simp only [Nat.beq_refl, Bool.true_and]
              exact List.any_eq_true.2 ⟨y, hin y (by simp [hy]), hP⟩
      · rcases t3 with h | h
        · rw [hsx hs] at h; cases h
        · exact h
    · rcases List.mem_cons.1 hz with rfl | hz
      · have := h.2.1
        simp only [Bool.or_eq_true, Bool.not_eq_true'] at this
        rcases this with h | h
        · rw [hsx hs] at h; cases h
        · exact h
      · exact ih2 z hz hs

theorem keepE_eqv {e e' : Env} (h : Eqv e e') : ∀ ks, keepE e ks = keepE e' ks
  | [] => rfl
  | k :: ks => by simp only [keepE, h.lk k, keepE_eqv h ks]

/-- A REGION THAT DRAWS ITS ORDER: THE CANONICAL ORDER STANDS FOR EVERY ORDER. -/
theorem Sd.drw {N : Lim} {id : Nat} {ops : Array Oper} {locs : List Nat} {is : List DI} {anc : List (List Nat)} {ls : List (Option Nat)} {rows : List (Nat × DI × Option Nat)} (hm : P.follows .mixedOrders = true)
    (h : prepIs P N locs false ops ops.toList = some is) (ha : ancs 0 ops.toList [] = some anc) (hr : canonRows (zipL is ls) anc = some rows) (ks : List Nat) : Sd P gt N (.region id ops true) (.drw (rows.map fun p => (p.2, chkOf anc rows p)) ks) := by
  intro O S G w env a QD hpi hN hg hw
  refine wp_mono (Q := Qc P gt O fun e env S => QD e (keepE env ks) S) (wp_region_any hm ?_) (Qc.mono fun S G w env a e g q => ⟨_, g.keepE ks, q⟩)
  have hg' : Good P gt O S G { w with drawn := w.drawn + 1 } env a := hg.step (Tr.gr hg.inv (Gr.drew w _))
  generalize { w with drawn := w.drawn + 1 } = w' at hg'
  obtain ⟨hlen, hget⟩ := prepIs_get h
  unfold canonRows at hr
  split at hr
  · rename_i rows' hpick
    split at hr
    · rename_i hok
      simp only [Option.some.injEq] at hr; subst hr
      unfold drwOK at hok
      simp only [Bool.and_eq_true] at hok
      obtain ⟨k1, k2, k3⟩ := hok
      have hzl : (zipL is ls).length = ops.size := by rw [zipL_length, hlen]; simp
      rw [hzl] at k1 k3
      have k1 := Nat.le_of_ble_eq_true k1
      obtain ⟨j1, j2⟩ := pairsOK_get (pairsOK_ids k2) (fun x hx => hx) k2
      let B : Nat → List Nat := fun i => match ops[i]? with
        | some o => bindOn o
        | none => []
      have hB : ∀ (i : Nat) (o : Oper), ops[i]? = some o → B i = bindOn o := fun i o ho => by simp only [B, ho]
      obtain ⟨a1, a2⟩ := ancs_ok (B := B) ops.toList 0 [] anc ha rfl (fun k l hk => by simp at hk) (fun m o hm => by
        rw [Nat.zero_add]; exact hB m o (by simpa using hm))
      refine drw_any (locs := locs) (sf := sfOf anc rows') (QD := fun e env S => QD e (keepE env ks) S) hN hB (fun i o ho j hj => by simpa using a1 i o (by simpa using ho) j hj) a2 (fun v S e e' hq => hpi v S _ _ hq) (fun S e e' he hq => by
        rw [← keepE_eqv he ks]; exact hq) ops.size (Array.replicate ops.size false) (rows'.map fun p => (p.1, p.2, chkOf anc rows' p)) env S G w' a (by simpa using k1) (by simp) (fun p hp => ?_) (fun i hi _ => ?_) (fun p hp => ?_) ?_ (fun i o ho hl => ?_) hg' (by rw [List.map_map]; exact hw)
      · obtain ⟨q, hq, rfl⟩ := List.mem_map.1 hp
        have h1 := pickRows_get hpick q hq
        have h2 := (List.getElem?_eq_some_iff.1 h1).1
        rw [hzl] at h2
        simp [Array.getD_eq_getD_getElem?, h2]
      · have := List.all_eq_true.1 k3 i (List.mem_range.2 hi)
        obtain ⟨p, hp, hpe⟩ := List.any_eq_true.1 this
        exact ⟨_, List.mem_map.2 ⟨p, hp, rfl⟩, Nat.eq_of_beq_eq_true hpe⟩
      · obtain ⟨q, hq, rfl⟩ := List.mem_map.1 hp
        refine ⟨⟨chk_reads.1, chk_reads.2, fun hs => j2 q hq hs⟩, ?_⟩
        have h1 := zipL_get (pickRows_get hpick q hq)
        obtain ⟨o, ho, hpr⟩ := hget q.1 q.2.1 h1
        exact ⟨o, by simpa using ho, hpr⟩
      · exact List.pairwise_map.2 j1
      · have hi : i < ops.size := (Array.getElem?_eq_some_iff.1 ho).1
        simp [Array.getD_eq_getD_getElem?, hi] at hl
    · cases hr
  · cases hr
end
end Go.Dn
