/- One operation: every row of the table. -/
import Derived.Test.YtinhgnepnkbpcaaGreatDoorDnJ
set_option linter.unusedSimpArgs false
set_option linter.unusedVariables false
namespace Go.Dn
open Go Go.RowKit

section
variable {P : Program} {gt : GT} {O : Orig} {S : St} {G : Gh} {w : World} {env env' : Env} {a : Act} {S' : St} {o : Oper}

theorem run_enter {f : FuncId} (hb : HasBody P f) (args : Array Value) : (callFunc f args).run P w = .ok (.enter f args) w := by
  obtain ⟨fn, h1, h2, h3⟩ := hb
  have h2 : ¬ fn.name = "runtime.NumGoroutine" := by simpa using h2
  have h3 : ¬ fn.body = none := by
    intro e; rw [e] at h3; cases h3
  simp [callFunc, h1, h2, h3]

theorem args_eq (c : Call) : c.args.map a.eval = ⟨c.args.toList.map a.eval⟩ := by
  apply Array.ext'; simp

theorem so_call (h : Good P gt O S G w env a) {c : Call} {f : FuncId} {ts : List TypeId} {dxs : List DOpd} (hop : o.op = .call c) (hc : c.callee = .value (.func f)) (hx : opdsP P ts c.args.toList = some dxs) :
    StepOK P gt O o w a S G (stepO gt o.dst env S (.call f dxs)) := by
  obtain ⟨fb, hf⟩ := h.fr
  simp only [stepO]
  split
  · rename_i vs hvs
    intro hb
    refine ⟨c.args.toList.map a.eval, ?_, opds_sound hf hx hvs⟩
    have hres : (resolve a.eval c o.type).run P w = .ok { target := .fn (.func f) #[], args := c.args.map a.eval } w := by
      simp [resolve, hc, Deferred.ofValue, Act.eval]
    simp only [execOp, hop, Sem.run_bind, hres, Result.andThen_ok, invoke, Array.append_empty, run_enter hb, args_eq]
  · trivial

theorem so_callv (h : Good P gt O S G w env a) {c : Call} {x : Operand} {t : TypeId} {ts : List TypeId} {dx : DOpd} {dxs : List DOpd} (hop : o.op = .call c) (hc : c.callee = .value x) (hx0 : opdP P t x = some dx) (hx : opdsP P ts c.args.toList = some dxs) :
    StepOK P gt O o w a S G (stepO gt o.dst env S (.callv dx dxs)) := by
  obtain ⟨fb, hf⟩ := h.fr
  simp only [stepO]
  split
  · rename_i f fs cs vs hxa hvs
    intro hb
    have rx := opd_sound hx0 hxa hf
    simp only [Rv] at rx
    obtain ⟨ua, ub, r1, r2, r3⟩ := rx
    refine ⟨ua ++ c.args.toList.map a.eval ++ ub, ?_, (r2.append (opds_sound hf hx hvs)).append r3⟩
    have hres : (resolve a.eval c o.type).run P w = .ok { target := .fn (.func f) ⟨ub⟩, args := ⟨ua⟩ ++ c.args.map a.eval } w := by
      simp [resolve, hc, Deferred.ofValue, r1]
    simp only [execOp, hop, Sem.run_bind, hres, Result.andThen_ok, invoke, run_enter hb, args_eq]
    congr 2
    simp
  · trivial

theorem so_pnc (h : Good P gt O S G w env a) {x : Operand} {t : TypeId} {dx : DOpd} (hop : o.op = .panic x) (hx : opdP P t x = some dx) :
    StepOK P gt O o w a S G (stepO gt o.dst env S (.pnc dx)) := by
  obtain ⟨fb, hf⟩ := h.fr
  simp only [stepO]
  split
  · rename_i t v hxa
    have rx := opd_sound hx hxa hf
    refine ⟨a.eval x, ?_, rx⟩
    simp only [Rv] at rx
    obtain ⟨u, r1, _⟩ := rx
    simp only [execOp, hop, Sem.run_bind, r1, Instr.panic]
    rfl
  · trivial

theorem callP_sound (h : Good P gt O S G w env a) (hd : ∀ d, o.dst = some d → O.N.ok d) {c : Call} {op : DOp} (hop : o.op = .call c) (hp : callP P c o.type = some op) :
    StepOK P gt O o w a S G (stepO gt o.dst env S op) := by
  unfold callP at hp
  split at hp
  · rename_i f hc
    split at hp
    · rename_i xs he hx
      simp only [Option.some.injEq] at hp; subst hp
      exact so_call h hop hc hx
    · rename_i e xs he hx
      simp only [Option.some.injEq] at hp; subst hp
      exact .of (stepO_plain _ rfl) fun _ _ hs => so_xtn h hd hop hc he hx hs
    · cases hp
  · rename_i x _ hc
    split at hp
    · rename_i xs hx
      cases hx0 : opdP P o.type x with
      | none => rw [hx0] at hp; cases hp
      | some dx =>
        rw [hx0] at hp
        simp only [Option.bind_some, Option.some.injEq] at hp; subst hp
        exact so_callv h hop hc hx0 hx
    · cases hp
  · cases hp
  · rename_i b hc
    have hts : ∀ {l : List TypeId}, c.argTypes.toList = l → c.argTypes = ⟨l⟩ := fun e => Array.ext' e
    have has : ∀ {l : List Operand}, c.args.toList = l → c.args = ⟨l⟩ := fun e => Array.ext' e
    split at hp
    · rename_i t x ht ha
      have ht := hts ht
      have ha := has ha
      split at hp
      · rename_i hu
        cases hx : opdP P t x with
        | none => rw [hx] at hp; cases hp
        | some dx =>
          rw [hx] at hp
          simp only [Option.map_some, Option.some.injEq] at hp; subst hp
          exact .of (stepO_plain _ rfl) fun _ _ hs => so_lenS h hd hop hc ht ha hu hx hs
      · rename_i e hu
        cases hx : opdP P t x with
        | none => rw [hx] at hp; cases hp
        | some dx =>
          rw [hx] at hp
          simp only [Option.map_some, Option.some.injEq] at hp; subst hp
          exact .of (stepO_plain _ rfl) fun _ _ hs => so_len h hd hop hc ht ha hu hx hs
      · rename_i kt e hu
        cases hx : opdP P t x with
        | none => rw [hx] at hp; cases hp
        | some dx =>
          rw [hx] at hp
          simp only [Option.map_some, Option.some.injEq] at hp; subst hp
          exact .of (stepO_plain _ rfl) fun _ _ hs => so_lenM h hd hop hc ht ha hu hx hs
      · rename_i n e hu
        simp only [Option.some.injEq] at hp; subst hp
        exact .of (stepO_plain _ rfl) fun _ _ hs => so_lenC h hd hop hc ht ha hu hs
      · cases hp
    · rename_i t u x y ht ha
      have ht := hts ht
      have ha := has ha
      have key : ∀ {e : TypeId} {dd : TypeDesc}, P.underlying t = some (.slice e) → P.underlying u = some dd → (∀ k, dd ≠ .int k) →
          (match isAggP P e, P.info? e, opdP P t x, opdP P u y, elemC P e with
            | some a, some i, some x, some y, some z => if z.cells.length = i.size then some (DOp.app a e i.size i.bytes x y) else none
            | _, _, _, _, _ => none) = some op → StepOK P gt O o w a S G (stepO gt o.dst env S op) := fun hu hu2 hdd hp => by
        split at hp
        · rename_i g i dx dy z hg hi hx hy hz
          split at hp
          · rename_i hzl
            simp only [Option.some.injEq] at hp; subst hp
            exact .of (stepO_plain _ rfl) fun _ _ hs => so_app h hd hop hc ht ha hu hu2 hdd hi hz hzl hx hy hs
          · cases hp
        · cases hp
      split at hp
      · rename_i e e2 hu hu2; exact key hu hu2 (fun k hk => by cases hk) hp
      · rename_i e hu hu2; exact key hu hu2 (fun k hk => by cases hk) hp
      · cases hp
    · rename_i t x ht ha
      have ht := hts ht
      have ha := has ha
      split at hp
      · rename_i e hu
        split at hp
        · cases hx : opdP P t x with
          | none => rw [hx] at hp; cases hp
          | some dx =>
            rw [hx] at hp
            simp only [Option.map_some, Option.some.injEq] at hp; subst hp
            exact .of (stepO_plain _ rfl) fun _ _ hs => so_usd h hd hop hc ht ha hx hs
        · cases hp
      · cases hp
    · rename_i t u x n ht ha
      have ht := hts ht
      have ha := has ha
      split at hp
      · rename_i e hu
        split at hp
        · rename_i dx dn hsz hx hn
          simp only [Option.some.injEq] at hp; subst hp
          exact .of (stepO_plain _ rfl) fun _ _ hs => so_ustr h hd hop hc ht ha hu hsz hx hn hs
        · cases hp
      · cases hp
    · cases hx : opdsP P c.argTypes.toList c.args.toList with
      | none => rw [hx] at hp; cases hp
      | some dx =>
        rw [hx] at hp
        simp only [Option.map_some, Option.some.injEq] at hp; subst hp
        exact .of (stepO_plain _ rfl) fun _ _ hs => so_mx h hd hop hc hx hs
    · cases hx : opdsP P c.argTypes.toList c.args.toList with
      | none => rw [hx] at hp; cases hp
      | some dx =>
        rw [hx] at hp
        simp only [Option.map_some, Option.some.injEq] at hp; subst hp
        exact .of (stepO_plain _ rfl) fun _ _ hs => so_mn h hd hop hc hx hs
    · cases hp

theorem map_some' {α β : Type} {f : α → β} {x : Option α} {y : β} (h : x.map f = some y) : ∃ z, x = some z ∧ f z = y := by
  cases x with
  | none => cases h
  | some z => exact ⟨z, rfl, by simpa using h⟩

theorem convP_sound (h : Good P gt O S G w env a) (hd : ∀ d, o.dst = some d → O.N.ok d) {s t : TypeId} {x : Operand} {op : DOp} (hop : o.op = .convert s t x) (hp : convP P s t x = some op) :
    StepOK P gt O o w a S G (stepO gt o.dst env S op) := by
  unfold convP at hp
  split at hp
  · rename_i k0 k hu hv
    obtain ⟨dx, hx, rfl⟩ := map_some' hp
    exact .of (stepO_plain _ rfl) fun _ _ hs => so_cvI h hd hop hu hv hx hs
  · rename_i hu hv
    obtain ⟨dx, hx, rfl⟩ := map_some' hp
    exact .of (stepO_plain _ rfl) fun _ _ hs => so_cvId h hd hop hu hv hx hs
  · rename_i hu hv
    obtain ⟨dx, hx, rfl⟩ := map_some' hp
    exact .of (stepO_plain _ rfl) fun _ _ hs => so_cvRS h hd hop hu hv hx hs
  · rename_i e hu hv
    split at hp
    · rename_i he
      obtain ⟨dx, hx, rfl⟩ := map_some' hp
      exact .of (stepO_plain _ rfl) fun _ _ hs => so_cvBS h hd hop hu hv he hx hs
    · cases hp
  · rename_i e hu hv
    split at hp
    · rename_i he
      split at hp
      · rename_i hsz
        obtain ⟨dx, hx, rfl⟩ := map_some' hp
        exact .of (stepO_plain _ rfl) fun _ _ hs => so_cvSB h hd hop hu hv he hsz hx hs
      · cases hp
    · cases hp
  · rename_i e hu hv
    split at hp
    · rename_i n hsz
      obtain ⟨dx, hx, rfl⟩ := map_some' hp
      exact .of (stepO_plain _ rfl) fun _ _ hs => so_cvU h hd hop hu hv hsz hx hs
    · cases hp
  · rename_i u hu hv
    split at hp
    · rename_i n hsz
      obtain ⟨dx, hx, rfl⟩ := map_some' hp
      exact .of (stepO_plain _ rfl) fun _ _ hs => so_cvP h hd hop hu hv hsz hx hs
    · cases hp
  · cases hp

theorem ite_plain (b : Bool) (x y : DOp) (hx : isCallD x = false) (hy : isCallD y = false) : isCallD (if b = true then x else y) = false := by cases b <;> simpa

/-- EVERY ROW OF THE TABLE. -/
theorem stepO_sound (h : Good P gt O S G w env a) (hd : ∀ d, o.dst = some d → O.N.ok d) {locs : List Nat} {tk : Bool} {op : DOp} (hp : prepO P locs tk o = some op) :
    StepOK P gt O o w a S G (stepO gt o.dst env S op) := by
  cases hop : o.op with
  | move x =>
    simp only [prepO, hop] at hp
    obtain ⟨dx, hx, rfl⟩ := map_some' hp
    exact .of (stepO_plain _ rfl) fun _ _ hs => so_move h hd (.inl hop) hx hs
  | assign x =>
    simp only [prepO, hop] at hp
    obtain ⟨dx, hx, rfl⟩ := map_some' hp
    exact .of (stepO_plain _ rfl) fun _ _ hs => so_move h hd (.inr hop) hx hs
  | pick c x y =>
    simp only [prepO, hop] at hp
    split at hp
    · rename_i dc dx dy hc hx hy
      simp only [Option.some.injEq] at hp; subst hp
      exact .of (stepO_plain _ rfl) fun _ _ hs => so_pick h hd hop hc hx hy hs
    · cases hp
  | alloc e =>
    simp only [prepO, hop] at hp
    obtain ⟨z, hz, rfl⟩ := map_some' hp
    exact .of (stepO_plain _ (ite_plain _ _ _ rfl rfl)) fun _ _ hs => so_alloc h hd hop hz hs
  | box e x =>
    simp only [prepO, hop] at hp
    obtain ⟨dx, hx, rfl⟩ := map_some' hp
    exact .of (stepO_plain _ (ite_plain _ _ _ rfl rfl)) fun _ _ hs => so_box h hd hop hx hs
  | build t ps =>
    simp only [prepO, hop] at hp
    split at hp
    · rename_i z fs hz hu
      split at hp
      · rename_i hall
        obtain ⟨dps, hps, rfl⟩ := map_some' hp
        exact .of (stepO_plain _ rfl) fun _ _ hs => so_build h hd hop hz (.inl ⟨fs, hu, hall, hps⟩) hs
      · cases hp
    · rename_i z n e hz hu
      split at hp
      · rename_i s hsz
        obtain ⟨dps, hps, rfl⟩ := map_some' hp
        exact .of (stepO_plain _ rfl) fun _ _ hs => so_build h hd hop hz (.inr ⟨n, e, s, hu, hsz, hps⟩) hs
      · cases hp
    · cases hp
  | buildSlice t n ps =>
    simp only [prepO, hop] at hp
    split at hp
    · rename_i e hu
      split at hp
      · rename_i s z dps hsz hz hps
        split at hp
        · rename_i hc
          simp only [Option.some.injEq] at hp; subst hp
          exact .of (stepO_plain _ (ite_plain _ _ _ rfl rfl)) fun _ _ hs => so_bldSl h hd hop hu hsz hz hps hc.1 hc.2.1 hc.2.2 hs
        · cases hp
      · cases hp
    · cases hp
  | load t x =>
    simp only [prepO, hop] at hp
    split at hp
    · rename_i g s dx hg hsz hx
      split at hp
      · rename_i hgs
        simp only [Option.some.injEq] at hp; subst hp
        exact .of (stepO_plain _ rfl) fun _ _ hs => so_load h hd hop hg hsz hx hgs hs
      · cases hp
    · cases hp
  | store t x y =>
    simp only [prepO, hop] at hp
    split at hp
    · rename_i s dx dy hsz hx hy
      simp only [Option.some.injEq] at hp; subst hp
      exact .of (stepO_plain _ rfl) fun _ _ hs => so_store h hd hop hsz hx hy hs
    · cases hp
  | nilCheck x =>
    simp only [prepO, hop] at hp
    obtain ⟨dx, hx, rfl⟩ := map_some' hp
    exact .of (stepO_plain _ rfl) fun _ _ hs => so_nilCheck h hd hop hx hs
  | binOp bop t x y u =>
    simp only [prepO, hop] at hp
    split at hp
    · rename_i dx dy hx hy
      split at hp
      · simp only [Option.some.injEq] at hp; subst hp
        exact .of (stepO_plain _ rfl) fun _ _ hs => so_bin h hd hop hx hy (fun _ => rfl) hs
      · simp only [Option.some.injEq] at hp; subst hp
        exact .of (stepO_plain _ rfl) fun _ _ hs => so_bin h hd hop hx hy (fun _ => rfl) hs
      · rename_i h1 h2
        simp only [Option.some.injEq] at hp; subst hp
        exact .of (stepO_plain _ rfl) fun _ _ hs => so_bin h hd hop hx hy (fun hq => by rcases hq with hq | hq <;> subst hq <;> simp at h1 h2) hs
    · cases hp
  | unOp uop t x =>
    simp only [prepO, hop] at hp
    obtain ⟨dx, hx, rfl⟩ := map_some' hp
    exact .of (stepO_plain _ rfl) fun _ _ hs => so_un h hd hop hx hs
  | convert s t x =>
    simp only [prepO, hop] at hp
    exact convP_sound h hd hop hp
  | makeInterface t x =>
    simp only [prepO, hop] at hp
    split at hp
    · cases hp
    · rename_i td hni hu
      obtain ⟨dx, hx, rfl⟩ := map_some' hp
      exact .of (stepO_plain _ rfl) fun _ _ hs => so_mki h hd hop hu (fun ms hq => by subst hq; exact hni _ rfl) hx hs
    · cases hp
  | makeFunc f fs cs =>
    cases f <;> simp only [prepO, hop] at hp <;> first | (cases hp; done) | skip
    split at hp
    · rename_i df dc hf hc
      simp only [Option.some.injEq] at hp; subst hp
      exact .of (stepO_plain _ rfl) fun _ _ hs => so_mkf h hd hop hf hc hs
    · cases hp
  | makeMap t r =>
    cases r with
    | some x => simp only [prepO, hop] at hp; cases hp
    | none =>
      simp only [prepO, hop] at hp
      split at hp
      · simp only [Option.some.injEq] at hp; subst hp
        exact .of (stepO_plain _ rfl) fun _ _ hs => so_mkm h hd hop hs
      · cases hp
  | makeSlice t x y =>
    simp only [prepO, hop] at hp
    split at hp
    · rename_i e hu
      split at hp
      · rename_i i z dx dy hi hz hx hy
        split at hp
        · rename_i hs0
          simp only [Option.some.injEq] at hp; subst hp
          cases tk with
          | true => exact .of (stepO_plain _ rfl) fun _ _ hs => so_mks h hd hop hu hi hz hx hy hs0 hs
          | false => exact .of (stepO_plain _ rfl) fun _ _ hs => so_mksS h hd hop hu hi hz hx hy hs0 hs
        · cases hp
      · cases hp
    · cases hp
  | slice t x lo hi mx =>
    simp only [prepO, hop] at hp
    split at hp
    · rename_i hu
      split at hp
      · rename_i dx dlo dhi hx hlo hhi
        simp only [Option.some.injEq] at hp; subst hp
        exact .of (stepO_plain _ rfl) fun _ _ hs => so_slS h hd hop hu hx hlo hhi hs
      · cases hp
    · rename_i e hu
      split at hp
      · rename_i s dx dlo dhi dmx hsz hx hlo hhi hmx
        split at hp
        · cases hp
        · rename_i hmh
          simp only [Option.some.injEq] at hp; subst hp
          refine .of (stepO_plain _ rfl) fun _ _ hs => so_slA h hd hop hu hsz hx hlo hhi hmx (fun hm => ?_) hs
          have h1 : dmx.isSome = true := by
            cases mx with
            | none => cases hm
            | some m => simp only [opdO] at hmx; obtain ⟨q, _, rfl⟩ := map_some' hmx; rfl
          cases hi with
          | some q => rfl
          | none => simp only [opdO, Option.some.injEq] at hhi; subst hhi; simp [h1] at hmh
      · cases hp
    · rename_i n e hu
      split at hp
      · rename_i s dx dlo dhi hsz hx hlo hhi
        simp only [Option.some.injEq] at hp; subst hp
        exact .of (stepO_plain _ rfl) fun _ _ hs => so_slP h hd hop hu hsz hx hlo hhi hs
      · cases hp
    · cases hp
  | fieldAddr t x k =>
    simp only [prepO, hop] at hp
    split at hp
    · rename_i fs hu
      split at hp
      · rename_i f hf
        split at hp
        · rename_i n dx hsz hx
          simp only [Option.some.injEq] at hp; subst hp
          exact .of (stepO_plain _ rfl) fun _ _ hs => so_fieldAddr h hd hop hu hf hsz hx hs
        · cases hp
      · cases hp
    · cases hp
  | field t x k =>
    simp only [prepO, hop] at hp
    split at hp
    · rename_i fs hu
      split at hp
      · rename_i f hf
        split at hp
        · rename_i g s dx hg hsz hx
          split at hp
          · simp only [Option.some.injEq] at hp; subst hp
            exact .of (stepO_plain _ rfl) fun _ _ hs => so_field h hd hop hu hf hg hsz hx hs
          · cases hp
        · cases hp
      · cases hp
    · cases hp
  | indexAddr t x i =>
    simp only [prepO, hop] at hp
    split at hp
    · rename_i e hu
      split at hp
      · rename_i s dx di hsz hx hi
        split at hp
        · simp only [Option.some.injEq] at hp; subst hp
          exact .of (stepO_plain _ rfl) fun _ _ hs => so_indexAddrS h hd hop hu hsz hx hi hs
        · cases hp
      · cases hp
    · rename_i n e hu
      split at hp
      · rename_i s dx di hsz hx hi
        simp only [Option.some.injEq] at hp; subst hp
        exact .of (stepO_plain _ rfl) fun _ _ hs => so_indexAddrA h hd hop hu hsz hx hi hs
      · cases hp
    · cases hp
  | index t x i =>
    simp only [prepO, hop] at hp
    split at hp
    · rename_i hu
      split at hp
      · rename_i dx di hx hi
        simp only [Option.some.injEq] at hp; subst hp
        exact .of (stepO_plain _ rfl) fun _ _ hs => so_indexS h hd hop hu hx hi hs
      · cases hp
    · rename_i n e hu
      split at hp
      · rename_i g s dx di hg hsz hx hi
        split at hp
        · simp only [Option.some.injEq] at hp; subst hp
          exact .of (stepO_plain _ rfl) fun _ _ hs => so_indexA h hd hop hu hg hsz hx hi hs
        · cases hp
      · cases hp
    · cases hp
  | lookup t m k ok =>
    simp only [prepO, hop] at hp
    split at hp
    · rename_i kt e hu
      split at hp
      · rename_i q z dm dk hk hz hm hkk
        simp only [Option.some.injEq] at hp; subst hp
        exact .of (stepO_plain _ rfl) fun _ _ hs => so_lkp h hd hop hu hk hz hm hkk hs
      · cases hp
    · cases hp
  | mapUpdate t m k x =>
    simp only [prepO, hop] at hp
    split at hp
    · rename_i kt e hu
      split at hp
      · rename_i q dm dk dx hk hm hkk hx
        simp only [Option.some.injEq] at hp; subst hp
        exact .of (stepO_plain _ rfl) fun _ _ hs => so_mup h hd (.inl hop) hu hk hm hkk hx hs
      · cases hp
    · cases hp
  | insert t m k x =>
    simp only [prepO, hop] at hp
    split at hp
    · rename_i kt e hu
      split at hp
      · rename_i q dm dk dx hk hm hkk hx
        simp only [Option.some.injEq] at hp; subst hp
        exact .of (stepO_plain _ rfl) fun _ _ hs => so_mup h hd (.inr hop) hu hk hm hkk hx hs
      · cases hp
    · cases hp
  | mapEntry t m k =>
    simp only [prepO, hop] at hp
    split at hp
    · rename_i kt e hu
      split at hp
      · rename_i q z dm dk hk hz hm hkk
        simp only [Option.some.injEq] at hp; subst hp
        exact .of (stepO_plain _ rfl) fun _ _ hs => so_mpe h hd hop hu hk hz hm hkk hs
      · cases hp
    · cases hp
  | entryStore t m s x =>
    simp only [prepO, hop] at hp
    split at hp
    · rename_i kt e hu
      split at hp
      · rename_i dm ds dx hm hss hx
        simp only [Option.some.injEq] at hp; subst hp
        exact .of (stepO_plain _ rfl) fun _ _ hs => so_ens h hd hop hu hm hss hx hs
      · cases hp
    · cases hp
  | typeAssert x xt t ok =>
    simp only [prepO, hop] at hp
    split at hp
    · cases hp
    · rename_i td hni hu
      split at hp
      · rename_i z dx hz hx
        simp only [Option.some.injEq] at hp; subst hp
        exact .of (stepO_plain _ rfl) fun _ _ hs => so_tas h hd hop hu (fun ms hq => by subst hq; exact hni _ rfl) hz hx hs
      · cases hp
    · cases hp
  | extract x i =>
    simp only [prepO, hop] at hp
    obtain ⟨dx, hx, rfl⟩ := map_some' hp
    exact .of (stepO_plain _ rfl) fun _ _ hs => so_ext h hd hop hx hs
  | call c =>
    simp only [prepO, hop] at hp
    exact callP_sound h hd hop hp
  | panic x =>
    simp only [prepO, hop] at hp
    obtain ⟨dx, hx, rfl⟩ := map_some' hp
    exact so_pnc h hop hx
  | _ => simp only [prepO, hop] at hp; cases hp
end
end Go.Dn
