/- Operands, addresses, loads and stores. -/
import Derived.Test.YtinhgnepnkbpcaaGreatDoorDnF
set_option linter.unusedSimpArgs false
set_option linter.unusedVariables false
namespace Go.Dn
open Go Go.RowKit

section
variable {P : Program} {gt : GT} {O : Orig} {S : St} {G : Gh} {w : World} {env : Env} {a : Act}

theorem Rv.nilSl (es : Nat) : Rv S G w (.sl es ⟨none, 0, some 0, true⟩ []) (.slice none 0 0) := by
  simp only [Rv]
  refine ⟨none, 0, 0, rfl, ⟨rfl, Nat.le_refl _, by simp, fun c hc => by cases hc; rfl, fun _ => rfl, fun p hp => by cases hp⟩, fun _ p hp => by cases hp⟩

theorem cell1_sound {es : Nat} {v : Value} {x : AV} (h : cell1 es v = some x) : Rv S G w x v := by
  unfold cell1 at h
  split at h <;> cases h
  · simp [Rv]
  · simp [Rv]
  · simp [Rv]
  · simp [Rv]
  · exact Rv.nilSl es
  · simp [Rv]
  · simp [Rv]
  · simp [Rv]

theorem cellsC_sound : ∀ {es : List Nat} {vs : List Value} {xs : List AV}, cellsC es vs = some xs → Rl S G w xs vs
  | [], [], xs, h => by simp only [cellsC, Option.some.injEq] at h; subst h; exact Rl.nil
  | e :: es, v :: vs, xs, h => by
    simp only [cellsC] at h
    cases h1 : cell1 e v with
    | none => rw [h1] at h; cases h
    | some x =>
      cases h2 : cellsC es vs with
      | none => rw [h1, h2] at h; cases h
      | some r =>
        rw [h1, h2] at h
        simp only [Option.some.injEq] at h
        subst h
        exact Rl.cons (cell1_sound h1) (cellsC_sound h2)
  | [], _ :: _, xs, h => by simp [cellsC] at h
  | _ :: _, [], xs, h => by simp [cellsC] at h

theorem constC_sound {t : TypeId} {v : Value} {x : AV} (h : constC P t v = some x) : Rv S G w x v := by
  unfold constC at h
  split at h
  · rename_i cs
    cases h1 : cellsC (cellEs P 12 t) cs.toList with
    | none => rw [h1] at h; cases h
    | some xs =>
      rw [h1] at h
      simp only [Option.map_some, Option.some.injEq] at h
      subst h
      simp only [Rv]
      exact ⟨cs.toList, by simp, cellsC_sound h1⟩
  · rename_i vs
    split at h
    · rename_i h0
      cases h
      simp only [Rv, undef]
      have : vs = #[] := Array.eq_empty_of_size_eq_zero h0
      rw [this]
    · cases h
  · exact cell1_sound h

theorem opd_sound {t : TypeId} {x : Operand} {d : DOpd} {v : AV} (hp : opdP P t x = some d) (h : opd env d = some v) {fb : Nat → Nat} (hf : FR O S G w env a fb) : Rv S G w v (a.eval x) := by
  cases x with
  | tmp n =>
    simp only [opdP, Option.some.injEq] at hp
    subst hp
    simp only [opd] at h
    split at h
    · rename_i u hk
      cases h
      obtain ⟨u', h1, h2⟩ := hf.ent n _ hk
      simp only [Act.eval, Array.getD_eq_getD_getElem?, h1, Option.getD_some]
      exact h2
    · cases h
  | const c =>
    simp only [opdP] at hp
    cases hc : constC P t c with
    | none => rw [hc] at hp; cases hp
    | some y =>
      rw [hc] at hp
      simp only [Option.map_some, Option.some.injEq] at hp
      subst hp
      simp only [opd, Option.some.injEq] at h
      subst h
      exact constC_sound hc
  | global g =>
    simp only [opdP, Option.some.injEq] at hp
    subst hp
    simp only [opd, Option.some.injEq] at h
    subst h
    simp [Rv, Act.eval]
  | func f =>
    simp only [opdP, Option.some.injEq] at hp
    subst hp
    simp only [opd, Option.some.injEq] at h
    subst h
    simp only [Rv, Act.eval]
    exact ⟨[], [], rfl, Rl.nil, Rl.nil⟩

theorem opds_sound {fb : Nat → Nat} (hf : FR O S G w env a fb) : ∀ {ts : List TypeId} {xs : List Operand} {ds : List DOpd} {vs : List AV}, opdsP P ts xs = some ds → opds env ds = some vs → Rl S G w vs (xs.map a.eval)
  | [], [], ds, vs, hp, h => by
    simp only [opdsP, Option.some.injEq] at hp; subst hp
    simp only [opds, Option.some.injEq] at h; subst h
    exact Rl.nil
  | t :: ts, x :: xs, ds, vs, hp, h => by
    simp only [opdsP] at hp
    cases h1 : opdP P t x with
    | none => rw [h1] at hp; cases hp
    | some d =>
      cases h2 : opdsP P ts xs with
      | none => rw [h1, h2] at hp; cases hp
      | some r =>
        rw [h1, h2] at hp
        simp only [Option.some.injEq] at hp
        subst hp
        simp only [opds] at h
        cases h3 : opd env d with
        | none => rw [h3] at h; cases h
        | some v =>
          cases h4 : opds env r with
          | none => rw [h3, h4] at h; cases h
          | some vs' =>
            rw [h3, h4] at h
            simp only [Option.some.injEq] at h
            subst h
            exact Rl.cons (opd_sound h1 h3 hf) (opds_sound hf h2 h4)
  | [], _ :: _, _, _, hp, _ => by simp [opdsP] at hp
  | _ :: _, [], _, _, hp, _ => by simp [opdsP] at hp

def LocR (S : St) (G : Gh) (w : World) (fb : Nat → Nat) (p : Addr) : Loc → Prop
  | .lc t off => p = ⟨fb t, off, none⟩
  | .hp id off => id < S.nb ∧ p = ⟨G.β id, off, none⟩
  | .gl g off => p = ⟨g, off, none⟩
  | .el es o xs i off => Rv S G w (.eptr es o xs i off) (.pointer (some p))

theorem locV_sound {v : AV} {l : Loc} {u : Value} (h : locV v = some l) (hv : Rv S G w v u) (fb : Nat → Nat) : ∃ p, u = .pointer (some p) ∧ LocR S G w fb p l := by
  unfold locV at h
  split at h <;> cases h
  · simp only [Rv] at hv; exact ⟨_, hv.2, hv.1, rfl⟩
  · simp only [Rv] at hv; exact ⟨_, hv, rfl⟩
  · have := hv
    simp only [Rv] at hv
    obtain ⟨p, len, cap, h1, h2, h3, rfl⟩ := hv
    exact ⟨_, rfl, this⟩

theorem loc_sound {t : TypeId} {x : Operand} {d : DOpd} {l : Loc} (hp : opdP P t x = some d) (h : loc env d = some l) {fb : Nat → Nat} (hf : FR O S G w env a fb) : ∃ p, a.eval x = .pointer (some p) ∧ LocR S G w fb p l := by
  cases x with
  | tmp n =>
    simp only [opdP, Option.some.injEq] at hp
    subst hp
    simp only [loc] at h
    split at h
    · rename_i cs hk
      cases h
      obtain ⟨h1, _⟩ := hf.ent n _ hk
      exact ⟨_, by simp only [Act.eval, Array.getD_eq_getD_getElem?, h1, Option.getD_some], rfl⟩
    · rename_i t' off hk
      cases h
      have h1 := hf.ent n _ hk
      simp only [EntR] at h1
      exact ⟨_, by simp only [Act.eval, Array.getD_eq_getD_getElem?, h1, Option.getD_some], rfl⟩
    · rename_i v hk
      obtain ⟨u, h1, h2⟩ := hf.ent n _ hk
      obtain ⟨p, hu, hl⟩ := locV_sound h h2 fb
      exact ⟨p, by simp only [Act.eval, Array.getD_eq_getD_getElem?, h1, Option.getD_some, hu], hl⟩
    · cases h
  | const c =>
    simp only [opdP] at hp
    cases hc : constC P t c with
    | none => rw [hc] at hp; cases hp
    | some y => rw [hc] at hp; simp only [Option.map_some, Option.some.injEq] at hp; subst hp; simp [loc] at h
  | global g =>
    simp only [opdP, Option.some.injEq] at hp
    subst hp
    simp only [loc, Option.some.injEq] at h
    subst h
    exact ⟨_, rfl, rfl⟩
  | func f =>
    simp only [opdP, Option.some.injEq] at hp
    subst hp
    simp [loc] at h

theorem Rat.get {b es : Nat} : ∀ {xs : List AV} {off : Nat}, Rat S G w b es xs off → ∀ {i : Nat} {x : AV}, xs[i]? = some x →
    ∃ v, Rv S G w x v ∧ v.cells.size = es ∧ ∀ j, j < es → w.cell? ⟨b, off + i * es + j, none⟩ = v.cells[j]?
  | [], _, _, i, x, hx => by simp at hx
  | y :: xs, off, h, i, x, hx => by
    simp only [Rat] at h
    obtain ⟨⟨v, h1, h2, h3⟩, h4⟩ := h
    cases i with
    | zero => simp at hx; subst hx; exact ⟨v, h1, h2, by simpa using h3⟩
    | succ i =>
      simp at hx
      obtain ⟨u, g1, g2, g3⟩ := h4.get hx
      refine ⟨u, g1, g2, fun j hj => ?_⟩
      rw [← g3 j hj, show off + (i + 1) * es + j = off + es + i * es + j by rw [Nat.add_mul]; omega]

theorem Inv.boxCells (hI : Inv P gt S G w) {id : Nat} {ty : TypeId} {cs : List AV} (h : lk S.boxes id = some (some (ty, cs))) :
    id < S.nb ∧ ∃ pre rest fr sf, w.heap[G.β id]? = some (.cells ⟨pre ++ rest⟩ ty fr) ∧ okFr fr (pre ++ rest).length sf ∧ Rl S G w cs pre := by
  obtain ⟨h1, c, fr, sf, pre, rest, h2, h3, h4, h5⟩ := hI.box id ty cs h
  refine ⟨h1, pre, rest, fr, sf, ?_, ?_, h5⟩
  · rw [h2]; congr; cases c; simp_all
  · rw [← h4]; simpa using h3

theorem cell_pre {b : Nat} {pre rest : List Value} {ty : TypeId} {fr : Nat × Nat} (h : w.heap[b]? = some (.cells ⟨pre ++ rest⟩ ty fr)) {k : Nat} (hk : k < pre.length) : w.cell? ⟨b, k, none⟩ = pre[k]? := by
  simp [World.cell?, h, List.getElem?_append_left hk]

theorem ldC_sound (hI : Inv P gt S G w) {fb : Nat → Nat} (hf : FR O S G w env a fb) {sz : Nat} {l : Loc} {cs : List AV} {p : Addr} (h : ldC gt env S sz l = some cs) (hp : LocR S G w fb p l) :
    ∃ vs, vs.length = sz ∧ p.spot = none ∧ (∀ j, j < vs.length → w.cell? ⟨p.block, p.off + j, none⟩ = vs[j]?) ∧ Rl S G w cs vs := by
  have key : ∀ {xs : List AV} {pre : List Value} {b off : Nat}, Rl S G w xs pre → cut xs off sz = some cs → (∀ k, k < pre.length → w.cell? ⟨b, k, none⟩ = pre[k]?) →
      ∃ vs : List Value, vs.length = sz ∧ (∀ j, j < vs.length → w.cell? ⟨b, off + j, none⟩ = vs[j]?) ∧ Rl S G w cs vs := by
    intro xs pre b off hr hc hcell
    obtain ⟨h1, h2, h3⟩ := hr.cut hc
    have hlen := hr.length
    refine ⟨_, by simp; omega, fun j hj => ?_, h3⟩
    simp only [List.length_take, List.length_drop] at hj
    rw [hcell _ (by omega), List.getElem?_take_of_lt (by omega), List.getElem?_drop]
  cases l with
  | lc t off =>
    simp only [LocR] at hp
    subst hp
    simp only [ldC] at h
    split at h
    · rename_i c hk
      obtain ⟨_, _, _, _, vs, ty, h5, h6⟩ := hf.ent t _ hk
      obtain ⟨us, g1, g2, g3⟩ := key (b := fb t) h6 h (fun k hk => by simp [World.cell?, h5])
      exact ⟨us, g1, rfl, g2, g3⟩
    · cases h
  | hp id off =>
    simp only [LocR] at hp
    obtain ⟨hid, rfl⟩ := hp
    simp only [ldC] at h
    split at h
    · rename_i ty c hk
      obtain ⟨_, pre, rest, fr, sf, h2, _, h3⟩ := hI.boxCells hk
      obtain ⟨us, g1, g2, g3⟩ := key (b := G.β id) h3 h (fun k hk => cell_pre h2 hk)
      exact ⟨us, g1, rfl, g2, g3⟩
    · cases h
  | gl g off =>
    simp only [LocR] at hp
    subst hp
    simp only [ldC] at h
    split at h
    · rename_i c hk
      obtain ⟨_, c', ty, fr, h2, h3⟩ := hI.glob g _ hk
      obtain ⟨us, g1, g2, g3⟩ := key (b := g) h3 h (fun k hk => by simp [World.cell?, h2])
      exact ⟨us, g1, rfl, g2, g3⟩
    · cases h
  | el es o xs i off =>
    simp only [LocR, Rv] at hp
    obtain ⟨q, len, cap, hs, hr, hi, he⟩ := hp
    cases he
    simp only [ldC] at h
    cases hc : elCells S es o xs i with
    | none => rw [hc] at h; cases h
    | some c =>
      rw [hc] at h
      have hcap : 0 < cap := by have := hs.1; have := hs.2.1; omega
      -- the element's cells
      have hel : ∃ us : List Value, Rl S G w c us ∧ us.length = es ∧ ∀ j, j < es → w.cell? ⟨q.block, q.off + i * es + j, none⟩ = us[j]? := by
        unfold elCells at hc
        cases hrd : rd S o with
        | here =>
          rw [hrd] at hc
          simp only at hc
          cases hx : xs[i]? with
          | none => rw [hx] at hc; cases hc
          | some x =>
            rw [hx] at hc
            simp only [Option.map_some, Option.some.injEq] at hc
            subst hc
            obtain ⟨v, h1, h2, h3⟩ := (hr hrd).get hx
            exact ⟨v.cells.toList, h1.cells, by simpa using h2, fun j hj => by rw [h3 j hj]; simp⟩
        | box b boff =>
          rw [hrd] at hc
          simp only at hc
          split at hc
          · rename_i ty bc hk
            obtain ⟨_, pre, rest, fr, sf, h2, _, h3⟩ := hI.boxCells hk
            obtain ⟨_, _, _, h5⟩ := hs.2.2.2.2.2 q rfl hcap
            rw [hrd] at h5
            obtain ⟨e1, e2, e3⟩ := h5
            obtain ⟨k1, k2, k3⟩ := h3.cut hc
            have hlen := h3.length
            refine ⟨_, k3, by simp; omega, fun j hj => ?_⟩
            rw [e2, e3.1, show boff + o.off * es + i * es + j = boff + (o.off + i) * es + j by rw [Nat.add_mul]; omega, cell_pre h2 (by omega), List.getElem?_take_of_lt hj, List.getElem?_drop]
          · cases hc
        | no => rw [hrd] at hc; cases hc
      obtain ⟨us, k1, k2, k3⟩ := hel
      obtain ⟨g1, g2, g3⟩ := k1.cut h
      have hlen := k1.length
      refine ⟨_, ?_, rfl, fun j hj => ?_, g3⟩
      · simp; omega
      · simp only [List.length_take, List.length_drop] at hj
        rw [show q.off + i * es + off + j = q.off + i * es + (off + j) by omega, k3 _ (by omega), List.getElem?_take_of_lt (by omega), List.getElem?_drop]

theorem splice_Rl {cs : List AV} {pre : List Value} {new : List AV} {vs : List Value} (h : Rl S G w cs pre) (k : Rl S G w new vs) (off : Nat) : Rl S G w (splice cs off new) (spl pre off vs) := by
  unfold splice spl
  rw [k.length]
  exact ((h.take off).append k).append (h.drop _)

theorem spl_append {pre rest : List Value} {off : Nat} {vs : List Value} (h : off + vs.length ≤ pre.length) : spl (pre ++ rest) off vs = spl pre off vs ++ rest := by
  unfold spl
  rw [List.take_append_of_le_length (by omega), List.drop_append_of_le_length h]
  simp

/-- a heap variable is written at an offset -/
theorem stBox_tr (hI : Inv P gt S G w) {id : Nat} {ty : TypeId} {cs : List AV} (hk : lk S.boxes id = some (some (ty, cs))) {off : Nat} {new : List AV} {vs : List Value} (hle : off + new.length ≤ cs.length) (hr : Rl S G w new vs) (h1 : new.all ok1 = true) :
    ∃ w', (storeCells ⟨G.β id, off, none⟩ vs).run P w = .ok () w' ∧ Tr P gt S G w { S with boxes := (id, some (ty, splice cs off new)) :: S.boxes } G w' := by
  obtain ⟨hid, pre, rest, fr, sf, h2, h3, h4⟩ := hI.boxCells hk
  have hl := h4.length
  have hv := hr.length
  have hrun := run_stC P (G.β id) off ty fr vs 0 (pre ++ rest) w h2 (by simp; omega) (fun k hk => h3.free hk) (hr.one h1)
  rw [Nat.add_zero] at hrun
  refine ⟨_, hrun, ?_⟩
  rw [spl_append (by omega)]
  refine Tr.boxSet (c' := ⟨spl pre off vs ++ rest⟩) hI hk h2 ?_ rfl (splice_Rl h4 hr off)
  have := spl_length (l := pre) (off := off) (new := vs) (by omega)
  simp [this]

theorem stBox_sound (h : Good P gt O S G w env a) {id : Nat} {ty : TypeId} {cs : List AV} (hk : lk S.boxes id = some (some (ty, cs))) {off : Nat} {new : List AV} {vs : List Value} (hle : off + new.length ≤ cs.length) (hr : Rl S G w new vs) (h1 : new.all ok1 = true) :
    ∃ w', (storeCells ⟨G.β id, off, none⟩ vs).run P w = .ok () w' ∧ Good P gt O { S with boxes := (id, some (ty, splice cs off new)) :: S.boxes } G w' env a := by
  obtain ⟨w', g1, g2⟩ := stBox_tr h.inv hk hle hr h1
  exact ⟨w', g1, h.step g2⟩

theorem stL_sound (h : Good P gt O S G w env a) {fb : Nat → Nat} (hf : FR O S G w env a fb) {l : Loc} {p : Addr} (hp : LocR S G w fb p l) {new : List AV} {vs : List Value} (hr : Rl S G w new vs) (h1 : new.all ok1 = true) {env' : Env} {S' : St} (hst : stL env S new l = some (env', S')) :
    ∃ w' G', (storeCells p vs).run P w = .ok () w' ∧ Good P gt O S' G' w' env' a := by
  have hv := hr.length
  cases l with
  | lc t off =>
    simp only [LocR] at hp
    subst hp
    simp only [stL] at hst
    split at hst
    · rename_i cs hk
      cases hb : Nat.ble (off + new.length) cs.length with
      | false => rw [hb] at hst; cases hst
      | true =>
        rw [hb] at hst
        simp only [cond_true, Option.some.injEq, Prod.mk.injEq] at hst
        obtain ⟨rfl, rfl⟩ := hst
        have hle := Nat.le_of_ble_eq_true hb
        obtain ⟨_, _, _, _, us, ty, h5, h6⟩ := hf.ent t _ hk
        have hl := h6.length
        have hrun := run_stC P (fb t) off ty (0, 0) vs 0 us w h5 (by omega) (fun k _ => by simp) (hr.one h1)
        rw [Nat.add_zero] at hrun
        exact ⟨_, G, hrun, h.stLocal hf hk h5 (spl_length (by omega)) (splice_Rl h6 hr off)⟩
    · cases hst
  | hp id off =>
    simp only [LocR] at hp
    obtain ⟨_, rfl⟩ := hp
    simp only [stL] at hst
    split at hst
    · rename_i ty cs hk
      cases hb : Nat.ble (off + new.length) cs.length with
      | false => rw [hb] at hst; cases hst
      | true =>
        rw [hb] at hst
        simp only [cond_true, Option.some.injEq, Prod.mk.injEq] at hst
        obtain ⟨rfl, rfl⟩ := hst
        obtain ⟨w', g1, g2⟩ := stBox_sound h hk (Nat.le_of_ble_eq_true hb) hr h1
        exact ⟨w', G, g1, g2⟩
    · cases hst
  | gl g off => simp [stL] at hst
  | el es o xs i off =>
    simp only [LocR, Rv] at hp
    obtain ⟨q, len, cap, hs, hrat, hi, he⟩ := hp
    cases he
    have hcap : 0 < cap := by have := hs.1; have := hs.2.1; omega
    obtain ⟨hes, hspot, hshape, h5⟩ := hs.2.2.2.2.2 q rfl hcap
    simp only [stL] at hst
    cases hrd : rd S o with
    | no => rw [hrd] at hst; cases hst
    | box b boff =>
      rw [hrd] at hst h5
      simp only at hst
      split at hst
      · rename_i ty cs hk
        cases hb : (Nat.ble (off + new.length) es && (Nat.blt i xs.length && Nat.ble (boff + (o.off + i) * es + off + new.length) cs.length)) with
        | false => rw [hb] at hst; cases hst
        | true =>
          rw [hb] at hst
          simp only [cond_true, Option.some.injEq, Prod.mk.injEq] at hst
          obtain ⟨rfl, rfl⟩ := hst
          simp only [Bool.and_eq_true] at hb
          obtain ⟨e1, e2, e3, _⟩ := h5
          obtain ⟨w', g1, g2⟩ := stBox_sound h hk (Nat.le_of_ble_eq_true hb.2.2) hr h1
          refine ⟨w', G, ?_, g2⟩
          rw [e2, e3, show boff + o.off * es + i * es + off = boff + (o.off + i) * es + off by rw [Nat.add_mul]; omega]
          exact g1
      · cases hst
    | here =>
      rw [hrd] at hst
      simp only at hst
      cases ho : o.tok with
      | none => rw [ho] at hst; cases hst
      | some tl =>
        obtain ⟨t, ln⟩ := tl
        rw [ho] at hst
        simp only at hst
        split at hst
        · rename_i n ty sf hk
          cases hb : (Nat.beq o.off 0 && (Nat.beq xs.length n && (Nat.blt i n && Nat.ble (off + new.length) es))) with
          | false => rw [hb] at hst; cases hst
          | true =>
            rw [hb] at hst
            simp only [cond_true, Option.some.injEq, Prod.mk.injEq] at hst
            obtain ⟨rfl, rfl⟩ := hst
            simp only [Bool.and_eq_true] at hb
            obtain ⟨b1, b2, b3, b4⟩ := hb
            have b1 := Nat.eq_of_beq_eq_true b1
            have b2 := Nat.eq_of_beq_eq_true b2
            have b4 := Nat.le_of_ble_eq_true b4
            simp only [hrd, ho] at h5
            obtain ⟨e1, e2, e3, e4, e5⟩ := h5
            have hvl : Vld S G t := by
              unfold rd at hrd
              simp only [ho] at hrd
              cases hm : lk S.mv t with
              | some m => rw [hm] at hrd; cases m; simp at hrd
              | none =>
                rw [hm] at hrd
                simp only at hrd
                cases hd : lk S.dl ln with
                | some u => rw [hd] at hrd; cases hrd
                | none => exact ⟨hm, by rw [e2]; exact hd⟩
            obtain ⟨_, ht2⟩ := h.inv.tip t n ty sf hk
            obtain ⟨es', c, fr, k1, k2, k3, k4, k5⟩ := ht2 hvl
            have hq0 : q.off = 0 := by rw [e4, b1]; simp
            -- the cells of all elements
            have hall : ∀ {ys : List AV} {o' : Nat}, Rat S G w q.block es ys o' → ∃ us : List Value, Rl S G w (ys.flatMap AV.cells) us ∧ us.length = ys.length * es ∧ ∀ j, j < us.length → w.cell? ⟨q.block, o' + j, none⟩ = us[j]? := by
              intro ys
              induction ys with
              | nil => intro o' _; exact ⟨[], Rl.nil, by simp, fun j hj => by simp at hj⟩
              | cons y ys ih =>
                intro o' hra
                simp only [Rat] at hra
                obtain ⟨⟨v, v1, v2, v3⟩, hra⟩ := hra
                obtain ⟨us, u1, u2, u3⟩ := ih hra
                refine ⟨v.cells.toList ++ us, by simp only [List.flatMap_cons]; exact v1.cells.append u1, ?_, fun j hj => ?_⟩
                · simp only [List.length_append, Array.length_toList, v2, u2, List.length_cons]; rw [Nat.add_mul]; omega
                · by_cases hj' : j < es
                  · rw [v3 j hj', List.getElem?_append_left (by simpa [v2] using hj')]; simp
                  · rw [List.getElem?_append_right (by simp [v2]; omega)]
                    simp only [Array.length_toList, v2]
                    rw [← u3 (j - es) (by simp [v2] at hj; omega), show o' + j = o' + es + (j - es) by omega]
            obtain ⟨us, u1, u2, u3⟩ := hall (hrat hrd)
            have hlen : us.length ≤ c.size := by
              obtain ⟨ty', k, hsh, hle⟩ := hshape
              rw [← e3] at hsh
              simp only [World.shape?, k2, Option.some.injEq, Prod.mk.injEq] at hsh
              obtain ⟨_, rfl⟩ := hsh
              have := hs.1; have := hs.2.1
              have : xs.length * es ≤ cap * es := Nat.mul_le_mul_right _ (by omega)
              omega
            have hc : c.toList = us ++ c.toList.drop us.length := by
              apply List.ext_getElem?
              intro j
              by_cases hj : j < us.length
              · rw [List.getElem?_append_left hj, ← u3 j hj, hq0, Nat.zero_add, ← e3]
                simp [World.cell?, k2]
              · rw [List.getElem?_append_right (by omega), List.getElem?_drop]
                congr 1; omega
            have h' := h.step (Tr.thaw (cs := xs.flatMap AV.cells) h.inv hk hvl e2 k2 hc u1)
            have hext : Ext S G w { S with nb := S.nb + 1, boxes := (S.nb, some (ty, xs.flatMap AV.cells)) :: S.boxes, mv := (t, .bx S.nb 0) :: S.mv, dl := (ln, ()) :: S.dl, tip := (t, none) :: S.tip } { G with β := upd G.β S.nb (G.τ t) } w := (Tr.thaw (cs := xs.flatMap AV.cells) h.inv hk hvl e2 k2 hc u1).ext
            have hle2 : i * es + off + new.length ≤ (xs.flatMap AV.cells).length := by
              rw [← u1.length, u2]
              have : (i + 1) * es ≤ xs.length * es := Nat.mul_le_mul_right _ hi
              rw [Nat.add_mul] at this
              omega
            obtain ⟨w', g1, g2⟩ := stBox_sound h' (lk_same _ _ _) hle2 (hr.mono hext) h1
            refine ⟨w', _, ?_, g2⟩
            simp only [upd_same] at g1
            rw [hq0, ← e3, Nat.zero_add]
            exact g1
        · cases hst
end
end Go.Dn
