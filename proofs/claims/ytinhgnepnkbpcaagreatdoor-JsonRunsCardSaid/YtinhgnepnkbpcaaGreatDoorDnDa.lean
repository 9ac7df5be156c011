/- What a row of a drawn region reads and writes. -/
import Derived.Test.YtinhgnepnkbpcaaGreatDoorDnM
set_option linter.unusedSimpArgs false
set_option linter.unusedVariables false
namespace Go.Dn
open Go

def Agr (R : List Nat) (e1 e2 : Env) : Prop := ∀ n ∈ R, lk e1 n = lk e2 n

theorem Agr.sub {R R' : List Nat} {e1 e2 : Env} (h : Agr R e1 e2) (hs : ∀ n ∈ R', n ∈ R) : Agr R' e1 e2 := fun n hn => h n (hs n hn)

/-- the same, on two frames -/
def Par (W L : List Nat) (e1 e2 : Env) : SR → SR → Prop
  | .fail, .fail => True
  | .done a s, .done b t => s = t ∧ ∃ ws : List (Nat × Ent), a = ws ++ e1 ∧ b = ws ++ e2 ∧ ∀ p ∈ ws, p.1 ∈ W ∧ ∀ t o, p.2 = .adr t o → t ∈ L
  | .call f xs, .call g ys => f = g ∧ xs = ys
  | .pan v, .pan u => v = u
  | _, _ => False

section
variable {W L : List Nat} {e1 e2 : Env} {dst : Option Nat} {gt : GT} {S : St}

theorem par_putE (hd : ∀ d, dst = some d → d ∈ W) (v : Ent) (hv : ∀ t o, v = .adr t o → t ∈ L) (S : St) : Par W L e1 e2 (.done (putE dst v e1) S) (.done (putE dst v e2) S) := by
  refine ⟨rfl, ?_⟩
  cases dst with
  | none => exact ⟨[], rfl, rfl, fun p hp => by cases hp⟩
  | some d => exact ⟨[(d, v)], rfl, rfl, fun p hp => by simp only [List.mem_singleton] at hp; subst hp; exact ⟨hd d rfl, hv⟩⟩

theorem par_putV (hd : ∀ d, dst = some d → d ∈ W) (v : AV) (S : St) : Par W L e1 e2 (.done (putV dst v e1) S) (.done (putV dst v e2) S) := par_putE hd _ (fun t o h => by cases h) S

theorem par_val (hd : ∀ d, dst = some d → d ∈ W) (x : Option AV) : Par W L e1 e2 (SR.val dst e1 S x) (SR.val dst e2 S x) := by
  cases x with
  | none => trivial
  | some v => exact par_putV hd v S

theorem par_fail : Par W L e1 e2 .fail .fail := trivial
theorem par_call (f : FuncId) (xs : List AV) : Par W L e1 e2 (.call f xs) (.call f xs) := ⟨rfl, rfl⟩
theorem par_pan (v : AV) : Par W L e1 e2 (.pan v) (.pan v) := rfl
theorem par_bif (b : Bool) {x y x' y' : SR} (h : Par W L e1 e2 x x') (k : Par W L e1 e2 y y') : Par W L e1 e2 (bif b then x else y) (bif b then x' else y') := by
  cases b <;> assumption

theorem opd_agr {x : DOpd} (h : Agr (slotO x) e1 e2) : opd e1 x = opd e2 x := by
  cases x with
  | t n => simp only [opd, h n (by simp [slotO])]
  | _ => rfl

theorem opds_agr : ∀ {xs : List DOpd}, Agr (xs.flatMap slotO) e1 e2 → opds e1 xs = opds e2 xs
  | [], _ => rfl
  | x :: xs, h => by
    have h1 : opd e1 x = opd e2 x := opd_agr (h.sub fun n hn => by simp [hn])
    have h2 := opds_agr (xs := xs) (h.sub fun n hn => by simp only [List.flatMap_cons, List.mem_append]; exact .inr hn)
    simp only [opds, h1, h2]

theorem loc_agr {x : DOpd} (h : Agr (slotO x) e1 e2) : loc e1 x = loc e2 x := by
  cases x with
  | t n => simp only [loc, h n (by simp [slotO])]
  | _ => rfl

theorem bnds_agr {n : Nat} {lo hi : Option DOpd} (h : Agr (slotOO lo) e1 e2) (k : Agr (slotOO hi) e1 e2) : bnds e1 n lo hi = bnds e2 n lo hi := by
  have h1 : ∀ {x : Option DOpd}, Agr (slotOO x) e1 e2 → ∀ y, x = some y → opd e1 y = opd e2 y := fun {x} hx y e => by subst e; exact opd_agr hx
  unfold bnds
  cases lo with
  | none =>
    cases hi with
    | none => rfl
    | some y => simp only [h1 k y rfl]
  | some x =>
    cases hi with
    | none => simp only [h1 h x rfl]
    | some y => simp only [h1 h x rfl, h1 k y rfl]

theorem fillC_agr : ∀ {ps : List (Nat × Nat × DOpd)} {cs : List AV}, Agr (ps.flatMap fun p => slotO p.2.2) e1 e2 → fillC cs e1 ps = fillC cs e2 ps
  | [], _, _ => rfl
  | (off, sz, x) :: ps, cs, h => by
    have h1 : opd e1 x = opd e2 x := opd_agr (h.sub fun n hn => by simp [hn])
    have h2 := fun cs' => fillC_agr (ps := ps) (cs := cs') (h.sub fun n hn => by simp only [List.flatMap_cons, List.mem_append]; exact .inr hn)
    simp only [fillC, h1, h2]

theorem fillE_agr {es : Nat} : ∀ {ps : List (Nat × DOpd)} {xs : List AV}, Agr (ps.flatMap fun p => slotO p.2) e1 e2 → fillE es xs e1 ps = fillE es xs e2 ps
  | [], _, _ => rfl
  | (i, x) :: ps, xs, h => by
    have h1 : opd e1 x = opd e2 x := opd_agr (h.sub fun n hn => by simp [hn])
    have h2 := fun xs' => fillE_agr (es := es) (ps := ps) (xs := xs') (h.sub fun n hn => by simp only [List.flatMap_cons, List.mem_append]; exact .inr hn)
    simp only [fillE, h1, h2]

/-- which local variable a place lies in -/
theorem conform_lc {l : Option Nat} {x : DOpd} {t off : Nat} {e : Env} (h : (match l, x with
    | l, .t n => (match l, lk e n with
      | some t, some (.box _) => Nat.beq t n
      | some t, some (.adr t' _) => Nat.beq t t'
      | none, some (.val _) => true
      | _, _ => false)
    | _, _ => true) = true) (hl : loc e x = some (.lc t off)) : l = some t := by
  cases x with
  | t n =>
    simp only [loc] at hl
    simp only at h
    split at hl
    · rename_i cs hk
      cases hl
      rw [hk] at h
      cases l with
      | none => simp at h
      | some t' => simp only at h; rw [Nat.eq_of_beq_eq_true h]
    · rename_i t' off' hk
      cases hl
      rw [hk] at h
      cases l with
      | none => simp at h
      | some t' => simp only at h; rw [Nat.eq_of_beq_eq_true h]
    · rename_i v hk
      cases v <;> simp [locV] at hl
    · cases hl
  | g n => simp [loc] at hl
  | _ => simp [loc] at hl

theorem ldC_agr {l : Option Nat} {sz : Nat} {p : Loc} (hl : ∀ t off, p = .lc t off → l = some t) (h : Agr l.toList e1 e2) : ldC gt e1 S sz p = ldC gt e2 S sz p := by
  cases p with
  | lc t off =>
    have := hl t off rfl
    subst this
    simp only [ldC, h t (by simp)]
  | _ => rfl

theorem stL_par {l : Option Nat} {new : List AV} {p : Loc} (hl : ∀ t off, p = .lc t off → l = some t) (h : Agr l.toList e1 e2) :
    match stL e1 S new p, stL e2 S new p with
    | some (a, s), some (b, t) => s = t ∧ ∃ ws : List (Nat × Ent), a = ws ++ e1 ∧ b = ws ++ e2 ∧ ∀ q ∈ ws, q.1 ∈ l.toList ∧ ∀ t o, q.2 ≠ .adr t o
    | none, none => True
    | _, _ => False := by
  have same : ∀ (o : Option St), match o.map fun s => (e1, s), o.map fun s => (e2, s) with
    | some (a, s), some (b, t) => s = t ∧ ∃ ws : List (Nat × Ent), a = ws ++ e1 ∧ b = ws ++ e2 ∧ ∀ q ∈ ws, q.1 ∈ l.toList ∧ ∀ t o, q.2 ≠ .adr t o
    | none, none => True
    | _, _ => False := fun o => by
    cases o with
    | none => trivial
    | some s => exact ⟨rfl, [], rfl, rfl, fun q hq => by cases hq⟩
  cases p with
  | lc t off =>
    have := hl t off rfl
    subst this
    simp only [stL, h t (by simp)]
    cases lk e2 t with
    | none => trivial
    | some en =>
      cases en with
      | box cs =>
        simp only
        cases Nat.ble (off + new.length) cs.length with
        | false => trivial
        | true => exact ⟨rfl, [(t, _)], rfl, rfl, fun q hq => by simp only [List.mem_singleton] at hq; subst hq; exact ⟨by simp, fun t o h => by cases h⟩⟩
      | _ => trivial
  | gl g off => trivial
  | hp id off =>
    simp only [stL]
    cases lk S.boxes id with
    | none => trivial
    | some b =>
      cases b with
      | none => trivial
      | some q =>
        obtain ⟨ty, cs⟩ := q
        simp only
        cases Nat.ble (off + new.length) cs.length with
        | false => trivial
        | true => exact ⟨rfl, [], rfl, rfl, fun q hq => by cases hq⟩
  | el es o xs i off =>
    simp only [stL]
    cases rd S o with
    | no => trivial
    | box b boff =>
      simp only
      cases lk S.boxes b with
      | none => trivial
      | some q =>
        cases q with
        | none => trivial
        | some q =>
          obtain ⟨ty, cs⟩ := q
          simp only
          cases (Nat.ble (off + new.length) es && (Nat.blt i xs.length && Nat.ble (boff + (o.off + i) * es + off + new.length) cs.length)) with
          | false => trivial
          | true => exact ⟨rfl, [], rfl, rfl, fun q hq => by cases hq⟩
    | here =>
      simp only
      cases o.tok with
      | none => trivial
      | some tl =>
        obtain ⟨t, ln⟩ := tl
        simp only
        cases lk S.tip t with
        | none => trivial
        | some q =>
          cases q with
          | none => trivial
          | some q =>
            obtain ⟨n, ty, sf⟩ := q
            simp only
            cases (Nat.beq o.off 0 && (Nat.beq xs.length n && (Nat.blt i n && Nat.ble (off + new.length) es))) with
            | false => trivial
            | true => exact ⟨rfl, [], rfl, rfl, fun q hq => by cases hq⟩

theorem addL_adr {l : Option Nat} {p : Loc} {n : Nat} (hl : ∀ t off, p = .lc t off → l = some t) (hLl : ∀ t, l = some t → t ∈ L) : ∀ t o, addL n p = .adr t o → t ∈ L := fun t o h => by
  cases p <;> simp only [addL] at h <;> cases h
  exact hLl _ (hl _ _ rfl)

theorem appE {a b : List Nat} {e1 e2 : Env} (h : Agr (a ++ b) e1 e2) : Agr a e1 e2 ∧ Agr b e1 e2 := ⟨h.sub fun n hn => by simp [hn], h.sub fun n hn => by simp [hn]⟩

def stW (l : Option Nat) : DOp → List Nat
  | .st .. => l.toList
  | _ => []

/-- A STEP READS ITS READS AND WRITES ITS WRITES. -/
theorem stepO_par {l : Option Nat} {op : DOp} (hL : isLoc op = false) (hd : ∀ d, dst = some d → d ∈ W) (hw : ∀ n ∈ stW l op, n ∈ W) (hr : Agr (readsO op) e1 e2) (hl : Agr l.toList e1 e2) (hc : conform l e1 op = true) (hLl : ∀ t, l = some t → t ∈ L) :
    Par W L e1 e2 (stepO gt dst e1 S op) (stepO gt dst e2 S op) := by
  cases op with
  | alL z => cases hL
  | bxL x => cases hL
  | mv x => simp only [readsO] at hr; simp only [stepO, opd_agr hr]; exact par_val hd _
  | pick c a b =>
    simp only [readsO] at hr
    obtain ⟨h12, h3⟩ := appE hr
    obtain ⟨h1, h2⟩ := appE h12
    simp only [stepO, opd_agr h1, opd_agr h2, opd_agr h3]
    split
    · exact par_val hd _
    · exact par_fail
  | alH ty z => exact par_putV hd _ _
  | bxH ty x =>
    simp only [readsO] at hr
    simp only [stepO, opd_agr hr]
    split
    · exact par_putV hd _ _
    · exact par_fail
  | bld z ps => simp only [readsO] at hr; simp only [stepO, fillC_agr hr]; exact par_val hd _
  | bldS es n z ps => simp only [readsO] at hr; simp only [stepO, fillE_agr hr]; exact par_val hd _
  | bldT ty es n z ps =>
    simp only [readsO] at hr
    simp only [stepO, fillE_agr hr]
    split
    · exact par_putV hd _ _
    · exact par_fail
  | ld g sz x =>
    simp only [readsO] at hr
    have hloc := loc_agr hr
    have hlc : ∀ p, loc e1 x = some p → ∀ t off, p = .lc t off → l = some t := fun p hp t off e => by
      subst e
      refine conform_lc ?_ hp
      cases x <;> exact hc
    simp only [stepO, hloc]
    split
    · rename_i p hp
      simp only [ldL, ldC_agr (gt := gt) (S := S) (hlc p (by rw [hloc]; exact hp)) hl]
      exact par_val hd _
    · exact par_fail
  | st sz x y =>
    simp only [readsO] at hr
    obtain ⟨h1, h2⟩ := appE hr
    have hloc := loc_agr h1
    have hlc : ∀ p, loc e1 x = some p → ∀ t off, p = .lc t off → l = some t := fun p hp t off e => by
      subst e
      refine conform_lc ?_ hp
      cases x <;> exact hc
    simp only [stepO, hloc, opd_agr h2]
    split
    · rename_i p v hp hv
      refine par_bif _ ?_ par_fail
      have := stL_par (S := S) (new := v.cells) (hlc p (by rw [hloc]; exact hp)) hl
      revert this
      cases stL e1 S v.cells p with
      | none =>
        cases stL e2 S v.cells p with
        | none => intro _; exact par_fail
        | some q => intro h; exact h.elim
      | some q1 =>
        cases stL e2 S v.cells p with
        | none => intro h; exact h.elim
        | some q2 =>
          obtain ⟨a, s⟩ := q1
          obtain ⟨b, t⟩ := q2
          rintro ⟨hs, ws, ha, hb, hws⟩
          subst hs; subst ha; subst hb
          refine ⟨rfl, ?_⟩
          cases dst with
          | none => exact ⟨ws, rfl, rfl, fun q hq => ⟨hw _ (hws q hq).1, fun t o h => absurd h ((hws q hq).2 t o)⟩⟩
          | some d =>
            refine ⟨(d, .val .undef) :: ws, rfl, rfl, fun q hq => ?_⟩
            rcases List.mem_cons.1 hq with rfl | hq
            · exact ⟨hd d rfl, fun t o h => by cases h⟩
            · exact ⟨hw _ (hws q hq).1, fun t o h => absurd h ((hws q hq).2 t o)⟩
    · exact par_fail
  | nilc x =>
    simp only [readsO] at hr
    have hloc := loc_agr hr
    have hlc : ∀ p, loc e1 x = some p → ∀ t off, p = .lc t off → l = some t := fun p hp t off e => by
      subst e
      refine conform_lc ?_ hp
      cases x <;> exact hc
    simp only [stepO, hloc, opd_agr hr]
    split
    · rename_i p hp
      exact par_putE hd _ (addL_adr (hlc p (by rw [hloc]; exact hp)) hLl) _
    · split
      · exact par_putV hd _ _
      · exact par_putV hd _ _
      · exact par_fail
  | bin bop ek x y =>
    simp only [readsO] at hr
    obtain ⟨h1, h2⟩ := appE hr
    simp only [stepO, opd_agr h1, opd_agr h2]
    split
    · exact par_val hd _
    · exact par_fail
  | un uop x => simp only [readsO] at hr; simp only [stepO, opd_agr hr]; exact par_val hd _
  | cvI k x =>
    simp only [readsO] at hr; simp only [stepO, opd_agr hr]
    split
    · exact par_putV hd _ _
    · exact par_fail
  | cvId x =>
    simp only [readsO] at hr; simp only [stepO, opd_agr hr]
    split
    · exact par_putV hd _ _
    · exact par_fail
  | cvBS x =>
    simp only [readsO] at hr; simp only [stepO, opd_agr hr]
    split
    · exact par_val hd _
    · exact par_fail
  | cvSB ty x =>
    simp only [readsO] at hr; simp only [stepO, opd_agr hr]
    split
    · exact par_bif _ (par_putV hd _ _) par_fail
    · exact par_fail
  | cvU x =>
    simp only [readsO] at hr; simp only [stepO, opd_agr hr]
    split
    · exact par_putV hd _ _
    · split
      · exact par_bif _ (par_putV hd _ _) par_fail
      · exact par_fail
    · exact par_fail
  | cvP ok x =>
    simp only [readsO] at hr; simp only [stepO, opd_agr hr]
    split
    · exact par_putV hd _ _
    · split
      · exact par_bif _ (par_putV hd _ _) par_fail
      · exact par_fail
    · exact par_fail
  | mki t x => simp only [readsO] at hr; simp only [stepO, opd_agr hr]; exact par_val hd _
  | mkf f fs cs =>
    simp only [readsO] at hr
    obtain ⟨h1, h2⟩ := appE hr
    simp only [stepO, opds_agr h1, opds_agr h2]
    split
    · exact par_putV hd _ _
    · exact par_fail
  | mkm => exact par_putV hd _ _
  | mks ty es bytes z x y =>
    simp only [readsO] at hr
    obtain ⟨h1, h2⟩ := appE hr
    simp only [stepO, opd_agr h1, opd_agr h2]
    split
    · exact par_bif _ (par_bif _ (par_putV hd _ _) (par_putV hd _ _)) par_fail
    · exact par_fail
  | slS x lo hi =>
    simp only [readsO] at hr
    obtain ⟨h12, h3⟩ := appE hr
    obtain ⟨h1, h2⟩ := appE h12
    simp only [stepO, opd_agr h1, bnds_agr h2 h3]
    split
    · split
      · exact par_putV hd _ _
      · exact par_fail
    · exact par_fail
  | slA es x lo hi mx =>
    simp only [readsO] at hr
    obtain ⟨h123, h4⟩ := appE hr
    obtain ⟨h12, h3⟩ := appE h123
    obtain ⟨h1, h2⟩ := appE h12
    simp only [stepO, opd_agr h1, bnds_agr h2 h3]
    split
    · refine par_bif _ ?_ par_fail
      split
      · cases mx with
        | none => exact par_putV hd _ _
        | some m =>
          have h5 : opd e1 m = opd e2 m := opd_agr h4
          simp only [h5]
          split
          · exact par_bif _ (par_putV hd _ _) par_fail
          · exact par_fail
      · exact par_fail
    · exact par_fail
  | slP es n x lo hi =>
    simp only [readsO] at hr
    obtain ⟨h12, h3⟩ := appE hr
    obtain ⟨h1, h2⟩ := appE h12
    simp only [stepO, loc_agr h1, bnds_agr h2 h3]
    split
    · split
      · exact par_bif _ (par_putV hd _ _) par_fail
      · exact par_fail
    · exact par_fail
  | fa off x =>
    simp only [readsO] at hr
    have hloc := loc_agr hr
    have hlc : ∀ p, loc e1 x = some p → ∀ t off, p = .lc t off → l = some t := fun p hp t off e => by
      subst e
      refine conform_lc ?_ hp
      cases x <;> exact hc
    simp only [stepO, hloc]
    split
    · rename_i p hp
      exact par_putE hd _ (addL_adr (hlc p (by rw [hloc]; exact hp)) hLl) _
    · exact par_fail
  | fd g off sz x =>
    simp only [readsO] at hr; simp only [stepO, opd_agr hr]
    split
    · exact par_val hd _
    · exact par_fail
  | ia es x i =>
    simp only [readsO] at hr
    obtain ⟨h1, h2⟩ := appE hr
    simp only [stepO, opd_agr h1, opd_agr h2]
    split
    · exact par_bif _ (par_putV hd _ _) par_fail
    · exact par_fail
  | iaA es n x i =>
    simp only [readsO] at hr
    obtain ⟨h1, h2⟩ := appE hr
    have hloc := loc_agr h1
    have hlc : ∀ p, loc e1 x = some p → ∀ t off, p = .lc t off → l = some t := fun p hp t off e => by
      subst e
      refine conform_lc ?_ hp
      cases x <;> exact hc
    simp only [stepO, hloc, opd_agr h2]
    split
    · rename_i p i' hp hi
      exact par_bif _ (par_putE hd _ (addL_adr (hlc p (by rw [hloc]; exact hp)) hLl) _) par_fail
    · exact par_fail
  | ixS x i =>
    simp only [readsO] at hr
    obtain ⟨h1, h2⟩ := appE hr
    simp only [stepO, opd_agr h1, opd_agr h2]
    split
    · split
      · exact par_putV hd _ _
      · exact par_fail
    · exact par_fail
  | ixA g es n x i =>
    simp only [readsO] at hr
    obtain ⟨h1, h2⟩ := appE hr
    simp only [stepO, opd_agr h1, opd_agr h2]
    split
    · exact par_bif _ (par_val hd _) par_fail
    · exact par_fail
  | lkp ek z m k ok =>
    simp only [readsO] at hr
    obtain ⟨h1, h2⟩ := appE hr
    simp only [stepO, opd_agr h1, opd_agr h2]
    split
    · refine par_bif _ ?_ par_fail
      split
      · split
        · exact par_putV hd _ _
        · exact par_putV hd _ _
        · exact par_fail
      · exact par_fail
    · exact par_fail
  | mup ek m k x =>
    simp only [readsO] at hr
    obtain ⟨h12, h3⟩ := appE hr
    obtain ⟨h1, h2⟩ := appE h12
    simp only [stepO, opd_agr h1, opd_agr h2, opd_agr h3]
    split
    · refine par_bif _ ?_ par_fail
      split
      · split
        · exact par_bif _ (par_putV hd _ _) par_fail
        · exact par_putV hd _ _
        · exact par_fail
      · exact par_fail
    · exact par_fail
  | mpe ek z m k =>
    simp only [readsO] at hr
    obtain ⟨h1, h2⟩ := appE hr
    simp only [stepO, opd_agr h1, opd_agr h2]
    split
    · refine par_bif _ ?_ par_fail
      split
      · split
        · exact par_bif _ (par_putV hd _ _) par_fail
        · exact par_putV hd _ _
        · exact par_fail
      · exact par_fail
    · exact par_fail
  | ens m s x =>
    simp only [readsO] at hr
    obtain ⟨h12, h3⟩ := appE hr
    obtain ⟨h1, h2⟩ := appE h12
    simp only [stepO, opd_agr h1, opd_agr h2, opd_agr h3]
    split
    · split
      · split
        · exact par_putV hd _ _
        · exact par_fail
      · exact par_fail
    · exact par_fail
  | mksS es bytes z l' c =>
    simp only [readsO] at hr
    obtain ⟨h1, h2⟩ := appE hr
    simp only [stepO, opd_agr h1, opd_agr h2]
    split
    · exact par_bif _ (par_putV hd _ _) par_fail
    · exact par_fail
  | cvRS x =>
    simp only [readsO] at hr; simp only [stepO, opd_agr hr]
    split
    · exact par_putV hd _ _
    · exact par_fail
  | ext x i =>
    simp only [readsO] at hr; simp only [stepO, opd_agr hr]
    split
    · exact par_val hd _
    · exact par_fail
  | len x =>
    simp only [readsO] at hr; simp only [stepO, opd_agr hr]
    split
    · exact par_putV hd _ _
    · exact par_fail
  | lenS x =>
    simp only [readsO] at hr; simp only [stepO, opd_agr hr]
    split
    · exact par_putV hd _ _
    · exact par_fail
  | lenM x =>
    simp only [readsO] at hr; simp only [stepO, opd_agr hr]
    split
    · exact par_putV hd _ _
    · split
      · exact par_putV hd _ _
      · exact par_fail
    · exact par_fail
  | lenC n => exact par_putV hd _ _
  | app g ty es bytes x y =>
    simp only [readsO] at hr
    obtain ⟨h1, h2⟩ := appE hr
    simp only [stepO, opd_agr h1, opd_agr h2]
    split
    · split
      · exact par_putV hd _ _
      · exact par_fail
    · exact par_fail
  | usd x =>
    simp only [readsO] at hr; simp only [stepO, opd_agr hr]
    split
    · exact par_putV hd _ _
    · refine par_bif _ (par_putV hd _ _) ?_
      split
      · exact par_putV hd _ _
      · exact par_fail
    · exact par_fail
  | ustr ty x n =>
    simp only [readsO] at hr
    obtain ⟨h1, h2⟩ := appE hr
    simp only [stepO, opd_agr h1, opd_agr h2]
    split
    · exact par_putV hd _ _
    · split
      · split
        · refine par_bif _ ?_ par_fail
          split
          · exact par_putV hd _ _
          · exact par_fail
        · exact par_fail
      · split
        · refine par_bif _ ?_ par_fail
          split
          · exact par_putV hd _ _
          · exact par_fail
        · exact par_fail
      · exact par_fail
    · exact par_fail
  | cpy es x y =>
    simp only [readsO] at hr
    obtain ⟨h1, h2⟩ := appE hr
    simp only [stepO, opd_agr h1, opd_agr h2]
    split
    · split
      · split
        · split
          · exact par_bif _ (par_putV hd _ _) par_fail
          · exact par_fail
        · exact par_fail
      · exact par_fail
    · exact par_fail
  | mx xs =>
    simp only [readsO] at hr
    simp only [stepO, opds_agr hr]
    split
    · exact par_val hd _
    · exact par_fail
  | mn xs =>
    simp only [readsO] at hr
    simp only [stepO, opds_agr hr]
    split
    · exact par_val hd _
    · exact par_fail
  | tas ok t z x =>
    simp only [readsO] at hr; simp only [stepO, opd_agr hr]
    split
    · exact par_bif _ (par_putV hd _ _) par_fail
    · exact par_bif _ (par_putV hd _ _) (par_bif _ (par_putV hd _ _) par_fail)
    · exact par_fail
  | xtn e xs =>
    simp only [readsO] at hr
    simp only [stepO, opds_agr hr]
    split
    · exact par_val hd _
    · exact par_fail
  | call f xs =>
    simp only [readsO] at hr
    simp only [stepO, opds_agr hr]
    split
    · exact par_call _ _
    · exact par_fail
  | callv x xs =>
    simp only [readsO] at hr
    obtain ⟨h1, h2⟩ := appE hr
    simp only [stepO, opd_agr h1, opds_agr h2]
    split
    · exact par_call _ _
    · exact par_fail
  | inv x tab xs =>
    simp only [readsO] at hr
    obtain ⟨h1, h2⟩ := appE hr
    simp only [stepO, opd_agr h1, opds_agr h2]
    split
    · split
      · exact par_call _ _
      · exact par_fail
    · exact par_fail
  | pnc x =>
    simp only [readsO] at hr; simp only [stepO, opd_agr hr]
    split
    · exact par_pan _
    · exact par_fail

theorem stepL_par {op : DOp} (hd : ∀ d, dst = some d → d ∈ W) (hr : Agr (readsO op) e1 e2) (hn : ∀ d, dst = some d → noAdr d e1 = noAdr d e2) : Par W L e1 e2 (stepL dst e1 S op) (stepL dst e2 S op) := by
  have done : ∀ d, dst = some d → ∀ cs, Par W L e1 e2 (.done ((d, .box cs) :: e1) S) (.done ((d, .box cs) :: e2) S) := fun d e cs =>
    ⟨rfl, [(d, .box cs)], rfl, rfl, fun p hp => by simp only [List.mem_singleton] at hp; subst hp; exact ⟨hd d e, fun t o h => by cases h⟩⟩
  cases op <;> try exact par_fail
  case alL z =>
    simp only [stepL]
    cases dst with
    | none => exact par_fail
    | some d =>
      simp only [hn d rfl]
      exact par_bif _ (done d rfl _) par_fail
  case bxL x =>
    simp only [readsO] at hr
    simp only [stepL, opd_agr hr]
    cases dst with
    | none => exact par_fail
    | some d =>
      cases opd e2 x with
      | none => exact par_fail
      | some v =>
        simp only [hn d rfl]
        exact par_bif _ (done d rfl _) par_fail
end
end Go.Dn
