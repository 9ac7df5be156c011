/- One operation, fifth part: what touches the store little. -/
import Derived.Test.YtinhgnepnkbpcaaGreatDoorDnQc
set_option linter.unusedSimpArgs false
set_option linter.unusedVariables false
namespace Go.Dn
open Go Go.RowKit

section
variable {P : Program} {gt : GT} {O : Orig} {S : St} {G : Gh} {w : World} {env env' : Env} {a : Act} {S' : St} {o : Oper}

theorem so_un (h : Good P gt O S G w env a) (hd : ∀ d, o.dst = some d → O.N.ok d) {op : UnOp} {t : TypeId} {x : Operand} {dx : DOpd} (hop : o.op = .unOp op t x) (hx : opdP P t x = some dx)
    (hs : stepO gt o.dst env S (.un op dx) = .done env' S') : OpOK P gt O o w a env' S' := by
  obtain ⟨fb, hfr⟩ := h.fr
  simp only [stepO] at hs
  refine ok_val' h hd hs fun z hz => ?_
  cases hxa : opd env dx with
  | none => rw [hxa] at hz; cases hz
  | some xa =>
    rw [hxa] at hz
    simp only [Option.bind_some] at hz
    have rx := opd_sound hx hxa hfr
    unfold unV at hz
    split at hz
    · rename_i k n
      cases hz
      simp only [Rv] at rx
      exact ⟨.int k (wr k (0 - n)), by simp only [Rv], by simp [execOp, hop, rx, Op.unary, Op.intArith, wr_eq]⟩
    · rename_i b
      cases hz
      simp only [Rv] at rx
      exact ⟨.bool (!b), by simp only [Rv], by simp [execOp, hop, rx, Op.unary]⟩
    · cases hz

theorem so_cvI (h : Good P gt O S G w env a) (hd : ∀ d, o.dst = some d → O.N.ok d) {s d : TypeId} {k0 k : IntKind} {x : Operand} {dx : DOpd} (hop : o.op = .convert s d x) (hu : P.underlying s = some (.int k0)) (hv : P.underlying d = some (.int k)) (hx : opdP P s x = some dx)
    (hs : stepO gt o.dst env S (.cvI k dx) = .done env' S') : OpOK P gt O o w a env' S' := by
  obtain ⟨fb, hfr⟩ := h.fr
  simp only [stepO] at hs
  split at hs
  · rename_i k1 n hxa
    simp only [SR.done.injEq] at hs
    obtain ⟨rfl, rfl⟩ := hs
    have rx := opd_sound hx hxa hfr
    simp only [Rv] at rx
    exact ok_val h hd (v := .int k (wr k n)) (by simp only [Rv]) (by simp [execOp, hop, convert, run_underlying hu, run_underlying hv, rx, Conv.intToInt, wr_eq])
  · cases hs

theorem so_cvId (h : Good P gt O S G w env a) (hd : ∀ d, o.dst = some d → O.N.ok d) {s d : TypeId} {x : Operand} {dx : DOpd} (hop : o.op = .convert s d x) (hu : P.underlying s = some .string) (hv : P.underlying d = some .string) (hx : opdP P s x = some dx)
    (hs : stepO gt o.dst env S (.cvId dx) = .done env' S') : OpOK P gt O o w a env' S' := by
  obtain ⟨fb, hfr⟩ := h.fr
  simp only [stepO] at hs
  split at hs
  · rename_i s1 hxa
    simp only [SR.done.injEq] at hs
    obtain ⟨rfl, rfl⟩ := hs
    have rx := opd_sound hx hxa hfr
    have rx' := rx
    simp only [Rv] at rx'
    exact ok_val h hd rx (by simp [execOp, hop, convert, run_underlying hu, run_underlying hv, rx'])
  · cases hs

theorem so_cvRS (h : Good P gt O S G w env a) (hd : ∀ d, o.dst = some d → O.N.ok d) {s d : TypeId} {k0 : IntKind} {x : Operand} {dx : DOpd} (hop : o.op = .convert s d x) (hu : P.underlying s = some (.int k0)) (hv : P.underlying d = some .string) (hx : opdP P s x = some dx)
    (hs : stepO gt o.dst env S (.cvRS dx) = .done env' S') : OpOK P gt O o w a env' S' := by
  obtain ⟨fb, hfr⟩ := h.fr
  simp only [stepO] at hs
  split at hs
  · rename_i k1 n hxa
    simp only [SR.done.injEq] at hs
    obtain ⟨rfl, rfl⟩ := hs
    have rx := opd_sound hx hxa hfr
    simp only [Rv] at rx
    exact ok_val h hd (v := .string (Utf8.encode n)) (by simp only [Rv]) (by simp [execOp, hop, convert, run_underlying hu, run_underlying hv, rx, Conv.intToString])
  · cases hs

theorem so_mki (h : Good P gt O S G w env a) (hd : ∀ d, o.dst = some d → O.N.ok d) {t : TypeId} {td : TypeDesc} {x : Operand} {dx : DOpd} (hop : o.op = .makeInterface t x) (hu : P.underlying t = some td) (hni : ∀ ms, td ≠ .interface ms) (hx : opdP P t x = some dx)
    (hs : stepO gt o.dst env S (.mki t dx) = .done env' S') : OpOK P gt O o w a env' S' := by
  obtain ⟨fb, hfr⟩ := h.fr
  simp only [stepO] at hs
  refine ok_val' h hd hs fun z hz => ?_
  obtain ⟨xa, hxa, rfl⟩ := Option.map_eq_some_iff.1 hz
  have rx := opd_sound hx hxa hfr
  refine ⟨.iface t (a.eval x), by simp only [Rv]; exact ⟨_, rfl, rx⟩, ?_⟩
  simp only [execOp, hop, Instr.makeInterface, Sem.run_bind, run_underlying hu, Result.andThen_ok]
  cases td <;> first | rfl | exact absurd rfl (hni _)

theorem so_mkf (h : Good P gt O S G w env a) (hd : ∀ d, o.dst = some d → O.N.ok d) {f : FuncId} {fs cs : Array Operand} {df dc : List DOpd} {tf tc : List TypeId} (hop : o.op = .makeFunc (.func f) fs cs) (hf : opdsP P tf fs.toList = some df) (hc : opdsP P tc cs.toList = some dc)
    (hs : stepO gt o.dst env S (.mkf f df dc) = .done env' S') : OpOK P gt O o w a env' S' := by
  obtain ⟨fb, hfr⟩ := h.fr
  simp only [stepO] at hs
  split at hs
  · rename_i va vb h1 h2
    simp only [SR.done.injEq] at hs
    obtain ⟨rfl, rfl⟩ := hs
    have r1 := opds_sound hfr hf h1
    have r2 := opds_sound hfr hc h2
    refine ok_val h hd (v := .func (.func f) (fs.map a.eval) (cs.map a.eval)) ?_ (by simp [execOp, hop, Instr.makeFunc])
    simp only [Rv]
    exact ⟨_, _, by congr 1 <;> (apply Array.ext'; simp), r1, r2⟩
  · cases hs

theorem so_mkm (h : Good P gt O S G w env a) (hd : ∀ d, o.dst = some d → O.N.ok d) {t : TypeId} (hop : o.op = .makeMap t none)
    (hs : stepO gt o.dst env S .mkm = .done env' S') : OpOK P gt O o w a env' S' := by
  simp only [stepO, SR.done.injEq] at hs
  obtain ⟨rfl, rfl⟩ := hs
  have h' := h.step (Tr.newMap h.inv)
  refine ⟨_, _, .inl ⟨.map (some w.heap.size), ?_, h'.putV hd ?_⟩⟩
  · simp [execOp, hop, Instr.makeMap, newObj, Sem.run]
  · simp only [Rv, upd_same]
    exact ⟨Nat.lt_succ_self _, trivial⟩

theorem so_ext (h : Good P gt O S G w env a) (hd : ∀ d, o.dst = some d → O.N.ok d) {x : Operand} {i : Nat} {dx : DOpd} {t : TypeId} (hop : o.op = .extract x i) (hx : opdP P t x = some dx)
    (hs : stepO gt o.dst env S (.ext dx i) = .done env' S') : OpOK P gt O o w a env' S' := by
  obtain ⟨fb, hfr⟩ := h.fr
  simp only [stepO] at hs
  split at hs
  · rename_i vs hxa
    refine ok_val' h hd hs fun z hz => ?_
    have rx := opd_sound hx hxa hfr
    simp only [Rv] at rx
    obtain ⟨us, hu, hr⟩ := rx
    obtain ⟨v, h1, h2⟩ := hr.get hz
    exact ⟨v, h2, by simp [execOp, hop, hu, Instr.extract, h1]⟩
  · cases hs

theorem run_builtin {c : Call} {b : Builtin} (hop : o.op = .call c) (hc : c.callee = .builtin b) {S0 : Sem Value} (hb : ∀ cs, builtin b c.argTypes o.type cs (c.args.map a.eval) = (do pure (.value (← S0)))) {v : Value} {w' : World} (hv : S0.run P w = .ok v w') :
    (execOp a.eval o).run P w = .ok (.value v) w' := by
  simp only [execOp, hop, resolve, hc, Sem.run_bind, Sem.run_pure, Result.andThen_ok, invoke, hb, hv]

theorem so_lenS (h : Good P gt O S G w env a) (hd : ∀ d, o.dst = some d → O.N.ok d) {c : Call} {t : TypeId} {x : Operand} {dx : DOpd} (hop : o.op = .call c) (hc : c.callee = .builtin .len) (ht : c.argTypes = #[t]) (ha : c.args = #[x])
    (hu : P.underlying t = some .string) (hx : opdP P t x = some dx)
    (hs : stepO gt o.dst env S (.lenS dx) = .done env' S') : OpOK P gt O o w a env' S' := by
  obtain ⟨fb, hfr⟩ := h.fr
  simp only [stepO] at hs
  split at hs
  · rename_i s hxa
    simp only [SR.done.injEq] at hs
    obtain ⟨rfl, rfl⟩ := hs
    have rx := opd_sound hx hxa hfr
    simp only [Rv] at rx
    refine ok_val h hd (v := .int .i64 s.length) (by simp only [Rv]) (run_builtin hop hc (fun cs => rfl) ?_)
    simp only [Builtin.len_, ht, ha, List.map_toArray, List.map_cons, List.map_nil, List.getElem?_toArray, List.getElem?_cons_zero, Sem.run_bind, run_underlying hu, Result.andThen_ok, rx]
    rfl
  · cases hs

theorem so_len (h : Good P gt O S G w env a) (hd : ∀ d, o.dst = some d → O.N.ok d) {c : Call} {t e : TypeId} {x : Operand} {dx : DOpd} (hop : o.op = .call c) (hc : c.callee = .builtin .len) (ht : c.argTypes = #[t]) (ha : c.args = #[x])
    (hu : P.underlying t = some (.slice e)) (hx : opdP P t x = some dx)
    (hs : stepO gt o.dst env S (.len dx) = .done env' S') : OpOK P gt O o w a env' S' := by
  obtain ⟨fb, hfr⟩ := h.fr
  simp only [stepO] at hs
  split at hs
  · rename_i es so xs hxa
    simp only [SR.done.injEq] at hs
    obtain ⟨rfl, rfl⟩ := hs
    have rx := opd_sound hx hxa hfr
    simp only [Rv] at rx
    obtain ⟨p, len, cap, hv, hsl, _⟩ := rx
    have hl := hsl.1
    subst hl
    refine ok_val h hd (v := .int .i64 xs.length) (by simp only [Rv]) (run_builtin hop hc (fun cs => rfl) ?_)
    simp only [Builtin.len_, ht, ha, List.map_toArray, List.map_cons, List.map_nil, List.getElem?_toArray, List.getElem?_cons_zero, Sem.run_bind, run_underlying hu, Result.andThen_ok, hv]
    rfl
  · cases hs

theorem so_lenC (h : Good P gt O S G w env a) (hd : ∀ d, o.dst = some d → O.N.ok d) {c : Call} {t e : TypeId} {n : Nat} {x : Operand} (hop : o.op = .call c) (hc : c.callee = .builtin .len) (ht : c.argTypes = #[t]) (ha : c.args = #[x])
    (hu : P.underlying t = some (.array n e)) (hs : stepO gt o.dst env S (.lenC n) = .done env' S') : OpOK P gt O o w a env' S' := by
  simp only [stepO, SR.done.injEq] at hs
  obtain ⟨rfl, rfl⟩ := hs
  refine ok_val h hd (v := .int .i64 n) (by simp only [Rv]) (run_builtin hop hc (fun cs => rfl) ?_)
  simp only [Builtin.len_, ht, ha, List.map_toArray, List.map_cons, List.map_nil, List.getElem?_toArray, List.getElem?_cons_zero, Sem.run_bind, run_underlying hu, Result.andThen_ok]
  rfl

theorem RlE.length : ∀ {es : List (AV × AV)} {ents : List MapEntry}, RlE S G w es ents → ents.length = es.length
  | [], _, h => by simp only [RlE] at h; subst h; rfl
  | (k, v) :: r, _, h => by
    obtain ⟨e, es', rfl, _, _, h3⟩ := h
    simp [RlE.length h3]

theorem so_lenM (h : Good P gt O S G w env a) (hd : ∀ d, o.dst = some d → O.N.ok d) {c : Call} {t kt e : TypeId} {x : Operand} {dx : DOpd} (hop : o.op = .call c) (hc : c.callee = .builtin .len) (ht : c.argTypes = #[t]) (ha : c.args = #[x])
    (hu : P.underlying t = some (.map kt e)) (hx : opdP P t x = some dx)
    (hs : stepO gt o.dst env S (.lenM dx) = .done env' S') : OpOK P gt O o w a env' S' := by
  obtain ⟨fb, hfr⟩ := h.fr
  simp only [stepO] at hs
  split at hs
  · rename_i hxa
    simp only [SR.done.injEq] at hs
    obtain ⟨rfl, rfl⟩ := hs
    have rx := opd_sound hx hxa hfr
    simp only [Rv] at rx
    refine ok_val h hd (v := .int .i64 0) (by simp only [Rv]) (run_builtin hop hc (fun cs => rfl) ?_)
    simp only [Builtin.len_, ht, ha, List.map_toArray, List.map_cons, List.map_nil, List.getElem?_toArray, List.getElem?_cons_zero, Sem.run_bind, run_underlying hu, Result.andThen_ok, rx]
    rfl
  · rename_i id hxa
    split at hs
    · rename_i es hm
      simp only [SR.done.injEq] at hs
      obtain ⟨rfl, rfl⟩ := hs
      have rx := opd_sound hx hxa hfr
      simp only [Rv] at rx
      obtain ⟨hid, rx⟩ := rx
      obtain ⟨es', ents, clk, h1, h2, h3⟩ := h.inv.map id hid
      rw [hm] at h1
      cases h1
      have hl := h3.1.length
      refine ok_val h hd (v := .int .i64 es.length) (by simp only [Rv]) (run_builtin hop hc (fun cs => rfl) ?_)
      have hg : (getObj (G.μ id)).run P w = .ok (.map ents clk) w := by simp [getObj, Sem.run, h2]
      simp only [Builtin.len_, ht, ha, List.map_toArray, List.map_cons, List.map_nil, List.getElem?_toArray, List.getElem?_cons_zero, Sem.run_bind, run_underlying hu, Result.andThen_ok, rx, hg]
      simp only [Array.length_toList] at hl
      simp only [Sem.run_pure, goInt, hl]
    · cases hs
  · cases hs

theorem foldM_sound {f : AV → AV → Option AV} {g : Value → Value → Sem Value} (hfg : ∀ {x y z : AV} {u v : Value}, f x y = some z → Rv S G w x u → Rv S G w y v → ∃ r, Rv S G w z r ∧ (g u v).run P w = .ok r w) :
    ∀ {xs : List AV} {us : List Value} {x z : AV} {u : Value}, Rl S G w xs us → Rv S G w x u → foldV f x xs = some z → ∃ r, Rv S G w z r ∧ (us.foldlM g u).run P w = .ok r w
  | [], _, x, z, u, hl, hx, h => by
    simp only [Rl] at hl; subst hl
    simp only [foldV, Option.some.injEq] at h; subst h
    exact ⟨u, hx, rfl⟩
  | y :: ys, _, x, z, u, hl, hx, h => by
    simp only [Rl] at hl
    obtain ⟨v, r, rfl, hv, hr⟩ := hl
    simp only [foldV] at h
    cases hf : f x y with
    | none => rw [hf] at h; cases h
    | some q =>
      rw [hf] at h
      obtain ⟨r1, h1, h2⟩ := hfg hf hx hv
      obtain ⟨r2, h3, h4⟩ := foldM_sound hfg hr h1 h
      exact ⟨r2, h3, by simp only [List.foldlM_cons, Sem.run_bind, h2, Result.andThen_ok, h4]⟩

theorem so_mx (h : Good P gt O S G w env a) (hd : ∀ d, o.dst = some d → O.N.ok d) {c : Call} {ts : List TypeId} {dxs : List DOpd} (hop : o.op = .call c) (hc : c.callee = .builtin .max) (hx : opdsP P ts c.args.toList = some dxs)
    (hs : stepO gt o.dst env S (.mx dxs) = .done env' S') : OpOK P gt O o w a env' S' := by
  obtain ⟨fb, hfr⟩ := h.fr
  simp only [stepO] at hs
  split at hs
  · rename_i v vs hv
    refine ok_val' h hd hs fun z hz => ?_
    have hr := opds_sound hfr hx hv
    have hr' := hr
    simp only [Rl] at hr'
    obtain ⟨u, us, hu, h1, h2⟩ := hr'
    obtain ⟨r, h3, h4⟩ := foldM_sound (P := P) (f := mxV) (g := Builtin.max2) (fun {x y z u v} hf hx hy => by
      unfold mxV at hf
      split at hf
      · cases hf
        simp only [Rv] at hx hy; subst hx; subst hy
        rename_i k p k' q
        refine ⟨.int k (if q > p then q else p), ?_, by simp [Builtin.max2]⟩
        simp only [Rv]
        by_cases e : q > p <;> simp [e]
      · cases hf) h2 h1 hz
    refine ⟨r, h3, run_builtin hop hc (fun cs => rfl) ?_⟩
    simp only [Builtin.max_, Array.toList_map, hu]
    exact h4
  · cases hs

theorem so_mn (h : Good P gt O S G w env a) (hd : ∀ d, o.dst = some d → O.N.ok d) {c : Call} {ts : List TypeId} {dxs : List DOpd} (hop : o.op = .call c) (hc : c.callee = .builtin .min) (hx : opdsP P ts c.args.toList = some dxs)
    (hs : stepO gt o.dst env S (.mn dxs) = .done env' S') : OpOK P gt O o w a env' S' := by
  obtain ⟨fb, hfr⟩ := h.fr
  simp only [stepO] at hs
  split at hs
  · rename_i v vs hv
    refine ok_val' h hd hs fun z hz => ?_
    have hr := opds_sound hfr hx hv
    have hr' := hr
    simp only [Rl] at hr'
    obtain ⟨u, us, hu, h1, h2⟩ := hr'
    obtain ⟨r, h3, h4⟩ := foldM_sound (P := P) (f := mnV) (g := Builtin.min2) (fun {x y z u v} hf hx hy => by
      unfold mnV at hf
      split at hf
      · cases hf
        simp only [Rv] at hx hy; subst hx; subst hy
        rename_i k p k' q
        refine ⟨.int k (if q < p then q else p), ?_, by simp [Builtin.min2]⟩
        simp only [Rv]
        by_cases e : q < p <;> simp [e]
      · cases hf) h2 h1 hz
    refine ⟨r, h3, run_builtin hop hc (fun cs => rfl) ?_⟩
    simp only [Builtin.min_, Array.toList_map, hu]
    exact h4
  · cases hs

theorem elemC_sound {e : TypeId} {z : AV} (h : elemC P e = some z) : ∃ zv, (∀ w, (zeroValue e).run P w = .ok zv w) ∧ ∀ S G w, Rv S G w z zv := by
  unfold elemC at h
  split at h
  · rename_i i hi
    split at h
    · rename_i zv hz
      exact ⟨zv, fun w => by simp [zeroValue, typeInfo, hi, hz], fun S G w => constC_sound h⟩
    · cases h
  · cases h

theorem Rat.sub {b es : Nat} : ∀ {xs : List AV} {off : Nat}, Rat S G w b es xs off → ∀ (l k : Nat), Rat S G w b es ((xs.drop l).take k) (off + l * es)
  | [], _, _, l, k => by simp [Rat]
  | x :: xs, off, h, 0, k => by
    simp only [List.drop_zero, Nat.zero_mul, Nat.add_zero]
    cases k with
    | zero => simp [Rat]
    | succ k =>
      simp only [Rat] at h
      simp only [List.take_succ_cons, Rat]
      have := Rat.sub h.2 0 k
      simp only [List.drop_zero, Nat.zero_mul, Nat.add_zero] at this
      exact ⟨h.1, this⟩
  | x :: xs, off, h, l + 1, k => by
    simp only [Rat] at h
    have := Rat.sub h.2 l k
    simp only [List.drop_succ_cons]
    rw [show off + (l + 1) * es = off + es + l * es by rw [Nat.add_mul]; omega]
    exact this

theorem so_tas (h : Good P gt O S G w env a) (hd : ∀ d, o.dst = some d → O.N.ok d) {t xt : TypeId} {td : TypeDesc} {ok : Bool} {z : AV} {x : Operand} {dx : DOpd} {tx : TypeId} (hop : o.op = .typeAssert x xt t ok) (hu : P.underlying t = some td) (hni : ∀ ms, td ≠ .interface ms) (hz : elemC P t = some z) (hx : opdP P tx x = some dx)
    (hs : stepO gt o.dst env S (.tas ok t z dx) = .done env' S') : OpOK P gt O o w a env' S' := by
  obtain ⟨fb, hfr⟩ := h.fr
  obtain ⟨zv, z1, z2⟩ := elemC_sound hz
  have hF : ∀ {v : Value}, (Instr.typeAssert (a.eval x) xt t ok).run P w = .ok v w → (execOp a.eval o).run P w = .ok (.value v) w := fun hv => by simp [execOp, hop, hv]
  have tup : ∀ {p : AV} {u : Value} {b : Bool}, Rv S G w p u → Rv S G w (.tup [p, .bool b]) (.tuple #[u, .bool b]) := fun hp => by
    simp only [Rv]; exact ⟨_, rfl, Rl.cons hp (Rl.cons (by simp only [Rv]) Rl.nil)⟩
  have red : ∀ {u : Value}, (∀ ms, td ≠ .interface ms) → (Instr.typeAssert u xt t ok).run P w = (match u with
      | .nilIface => (if ok then .ok (.tuple #[zv, .bool false]) w else (Instr.typeAssert u xt t ok).run P w : Result Value)
      | .iface t' v => if t' = t then .ok (if ok then .tuple #[v, .bool true] else v) w else if ok then .ok (.tuple #[zv, .bool false]) w else (Instr.typeAssert u xt t ok).run P w
      | _ => (Instr.typeAssert u xt t ok).run P w) := fun {u} _ => by
    cases ok <;> cases u <;> first
      | rfl
      | (cases td <;> first | exact absurd rfl (hni _) | (simp [Instr.typeAssert, run_underlying hu, z1]; done) | (simp only [Instr.typeAssert, Sem.run_bind, run_underlying hu, Result.andThen_ok]; split <;> simp_all))
  simp only [stepO] at hs
  split at hs
  · rename_i hxa
    have rx := opd_sound hx hxa hfr
    simp only [Rv] at rx
    cases ok with
    | false => cases hs
    | true =>
      simp only [cond_true, SR.done.injEq] at hs
      obtain ⟨rfl, rfl⟩ := hs
      exact ok_val h hd (tup (z2 S G w)) (hF (by rw [red hni, rx]; rfl))
  · rename_i u v hxa
    have rx := opd_sound hx hxa hfr
    simp only [Rv] at rx
    obtain ⟨q, rx, rv⟩ := rx
    cases hb : Nat.beq u t with
    | true =>
      rw [hb] at hs
      have hb := Nat.eq_of_beq_eq_true hb
      subst hb
      simp only [cond_true, SR.done.injEq] at hs
      obtain ⟨rfl, rfl⟩ := hs
      cases ok with
      | false => exact ok_val h hd rv (hF (by rw [red hni, rx]; simp))
      | true => exact ok_val h hd (tup rv) (hF (by rw [red hni, rx]; simp))
    | false =>
      rw [hb] at hs
      have hne : u ≠ t := fun e => by subst e; simp at hb
      cases ok with
      | false => cases hs
      | true =>
        simp only [cond_true, cond_false, SR.done.injEq] at hs
        obtain ⟨rfl, rfl⟩ := hs
        exact ok_val h hd (tup (z2 S G w)) (hF (by rw [red hni, rx]; simp [hne]))
  · cases hs

/-! ### slice expressions -/

def Bnd (a : Act) (n : Nat) (lo hi : Option Operand) (l h : Nat) : Prop :=
  (match lo with | none => l = 0 | some x => ∃ k, a.eval x = .int k l) ∧ (match hi with | none => h = n | some x => ∃ k, a.eval x = .int k h) ∧ l ≤ h ∧ h ≤ n

theorem bnds_sound {fb : Nat → Nat} (hfr : FR O S G w env a fb) {n l h : Nat} {lo hi : Option Operand} {dlo dhi : Option DOpd} (hlo : opdO P 0 lo = some dlo) (hhi : opdO P 0 hi = some dhi) (hb : bnds env n dlo dhi = some (l, h)) : Bnd a n lo hi l h := by
  unfold bnds at hb
  simp only at hb
  have conv : ∀ {x : Operand} {d : DOpd} {i : Nat}, opdP P 0 x = some d → (opd env d).bind nat? = some i → ∃ k, a.eval x = .int k i := fun hp hn => by
    obtain ⟨v, h1, h2⟩ := bind_nat hn
    exact nat?_sound h2 (opd_sound hp h1 hfr)
  have e1 : ∀ {x : Option Operand} {d : Option DOpd} {df i : Nat}, opdO P 0 x = some d → (match d with | none => some df | some x => (opd env x).bind nat?) = some i → (match x with | none => i = df | some x => ∃ k, a.eval x = .int k i) := fun {x d df i} hp hn => by
    cases x with
    | none => simp only [opdO, Option.some.injEq] at hp; subst hp; simp only [Option.some.injEq] at hn; exact hn.symm
    | some x =>
      simp only [opdO] at hp
      obtain ⟨d', h1, rfl⟩ := Option.map_eq_some_iff.1 hp
      exact conv h1 hn
  split at hb
  · rename_i l' h' hl hh
    cases hc : (Nat.ble l' h' && Nat.ble h' n) with
    | false => rw [hc] at hb; cases hb
    | true =>
      rw [hc] at hb
      cases hb
      simp only [Bool.and_eq_true] at hc
      exact ⟨e1 hlo hl, e1 hhi hh, Nat.le_of_ble_eq_true hc.1, Nat.le_of_ble_eq_true hc.2⟩
  · cases hb

theorem run_sliceBound {v : Value} {k : IntKind} {i y : Nat} {c : BoundsCode} (hv : v = .int k i) (h : i ≤ y) : (Instr.sliceBound v y c).run P w = .ok i w := by
  subst hv
  simp only [Instr.sliceBound, asIntOf, Sem.run_bind, Sem.run_pure, Result.andThen_ok]
  rw [if_pos ⟨by omega, by omega⟩]
  simp

theorem run_sliceBounds {isS : Bool} {len cap l h : Nat} {lo hi : Option Operand} (hb : Bnd a len lo hi l h) (hc : len ≤ cap) : (Instr.sliceBounds isS len cap (lo.map a.eval) (hi.map a.eval) none).run P w = .ok (l, h, cap) w := by
  obtain ⟨h1, h2, h3, h4⟩ := hb
  unfold Instr.sliceBounds
  cases lo with
  | none =>
    simp only at h1; subst h1
    cases hi with
    | none => simp only at h2; subst h2; simp
    | some x => obtain ⟨k, hk⟩ := h2; simp [run_sliceBound hk (show h ≤ cap by omega)]
  | some z =>
    obtain ⟨kz, hz⟩ := h1
    cases hi with
    | none => simp only at h2; subst h2; simp [run_sliceBound hz h3]
    | some x => obtain ⟨k, hk⟩ := h2; simp [run_sliceBound hk (show h ≤ cap by omega), run_sliceBound hz h3]

theorem so_slS (h : Good P gt O S G w env a) (hd : ∀ d, o.dst = some d → O.N.ok d) {t : TypeId} {x : Operand} {lo hi : Option Operand} {dx : DOpd} {dlo dhi : Option DOpd} (hop : o.op = .slice t x lo hi none) (hu : P.underlying t = some .string) (hx : opdP P t x = some dx) (hlo : opdO P 0 lo = some dlo) (hhi : opdO P 0 hi = some dhi)
    (hs : stepO gt o.dst env S (.slS dx dlo dhi) = .done env' S') : OpOK P gt O o w a env' S' := by
  obtain ⟨fb, hfr⟩ := h.fr
  simp only [stepO] at hs
  split at hs
  · rename_i s hxa
    split at hs
    · rename_i l h' hb
      simp only [SR.done.injEq] at hs
      obtain ⟨rfl, rfl⟩ := hs
      have rx := opd_sound hx hxa hfr
      simp only [Rv] at rx
      have hbd := bnds_sound hfr hlo hhi hb
      have hsz : (⟨⟨s⟩⟩ : ByteArray).size = s.length := rfl
      have hbr := run_sliceBounds (P := P) (w := w) (isS := false) hbd (Nat.le_refl _)
      have he : (⟨⟨s⟩⟩ : ByteArray).extract l h' = ⟨⟨(s.drop l).take (h' - l)⟩⟩ := by
        apply ByteArray.ext
        simp [ByteArray.data_extract, List.extract_toArray, List.extract_eq_take_drop]
      refine ok_val h hd (v := .string ⟨⟨(s.drop l).take (h' - l)⟩⟩) (by simp only [Rv]) ?_
      simp only [execOp, hop, Instr.sliceAt, Instr.slice, Sem.run_bind, run_underlying hu, Result.andThen_ok, rx, Option.map_none, Option.isSome_none, Bool.false_eq_true, if_false, hsz, hbr, he, Sem.run_pure]
    · cases hs
  · cases hs

theorem so_slA (h : Good P gt O S G w env a) (hd : ∀ d, o.dst = some d → O.N.ok d) {t e : TypeId} {s : Nat} {x : Operand} {lo hi mx : Option Operand} {dx : DOpd} {dlo dhi dmx : Option DOpd} (hop : o.op = .slice t x lo hi mx) (hu : P.underlying t = some (.slice e)) (hsz : sizeP P e = some s) (hx : opdP P t x = some dx) (hlo : opdO P 0 lo = some dlo) (hhi : opdO P 0 hi = some dhi) (hmx : opdO P 0 mx = some dmx)
    (hmh : mx.isSome = true → hi.isSome = true)
    (hs : stepO gt o.dst env S (.slA s dx dlo dhi dmx) = .done env' S') : OpOK P gt O o w a env' S' := by
  obtain ⟨fb, hfr⟩ := h.fr
  simp only [stepO] at hs
  split at hs
  · rename_i es so xs hxa
    cases hbe : Nat.beq s es with
    | false => rw [hbe] at hs; cases hs
    | true =>
    rw [hbe] at hs
    simp only [cond_true] at hs
    have hbe := Nat.eq_of_beq_eq_true hbe
    subst hbe
    split at hs
    · rename_i l h' hb
      have rx := opd_sound hx hxa hfr
      simp only [Rv] at rx
      obtain ⟨ad, len, cap, hv, hsl, hrat⟩ := rx
      have hlen := hsl.1
      subst hlen
      have hbd := bnds_sound hfr hlo hhi hb
      have hle := hsl.2.1
      have h34 := hbd.2.2
      -- what the result is
      have res : ∀ (m : Nat) (cp : Option Nat), h' ≤ m → m ≤ cap → (∀ c, cp = some c → m - l = c) →
          Rv S G w (.sl s { so with off := so.off + l, cap := cp } ((xs.drop l).take (h' - l))) (.slice (if m = l then ad else ad.map (·.add (l * s))) (h' - l) (m - l)) := by
        intro m cp hm1 hm2 hm3
        simp only [Rv]
        have hln : ((xs.drop l).take (h' - l)).length = h' - l := by simp; omega
        have hrd : rd S { so with off := so.off + l, cap := cp } = rd S so := rfl
        refine ⟨_, _, _, rfl, ⟨hln.symm, by omega, ?_, fun c hc => hm3 c hc, ?_, ?_⟩, ?_⟩
        · have := hsl.2.2.1
          split
          · exact this
          · cases ad with
            | none => simpa using this
            | some p => simpa using this
        · intro hn
          have : ad = none := by
            split at hn
            · exact hn
            · cases ad with
              | none => rfl
              | some p => simp at hn
          have := hsl.2.2.2.2.1 this
          omega
        · intro p hp hc
          rw [if_neg (by omega)] at hp
          cases ad with
          | none => simp at hp
          | some q =>
            simp only [Option.map_some, Option.some.injEq] at hp
            subst hp
            obtain ⟨g1, g2, ⟨ty, k, g3, g4⟩, g5⟩ := hsl.2.2.2.2.2 q rfl (by omega)
            rw [add_eta g2]
            have hmul : l * s + (m - l) * s ≤ cap * s := by rw [← Nat.add_mul]; exact Nat.mul_le_mul_right _ (by omega)
            refine ⟨g1, rfl, ⟨ty, k, g3, by simp only; omega⟩, ?_⟩
            rw [hrd]
            cases hr : rd S so with
            | here =>
              rw [hr] at g5
              simp only at g5 ⊢
              cases ht : so.tok with
              | none => rw [ht] at g5; exact g5
              | some tl =>
                rw [ht] at g5
                obtain ⟨e1, e2, e3, e4, e5⟩ := g5
                have hmul2 : l * s + (h' - l) * s ≤ xs.length * s := by rw [← Nat.add_mul]; exact Nat.mul_le_mul_right _ (by omega)
                exact ⟨e1, e2, e3, by show q.off + l * s = (so.off + l) * s; rw [e4, Nat.add_mul], by show q.off + l * s + (h' - l) * s ≤ G.sz q.block; omega⟩
            | box b boff =>
              rw [hr] at g5
              simp only at g5 ⊢
              obtain ⟨e1, e2, e3, e4⟩ := g5
              exact ⟨e1, e2, by show q.off + l * s = boff + (so.off + l) * s; rw [e3, Nat.add_mul]; omega, e4⟩
            | no => rw [hr] at g5; exact g5
        · intro hrd' p hp
          rw [hrd] at hrd'
          by_cases e0 : h' - l = 0
          · rw [e0]; simp only [List.take_zero, Rat]
          rw [if_neg (by omega)] at hp
          cases ad with
          | none => simp at hp
          | some q =>
            simp only [Option.map_some, Option.some.injEq] at hp
            subst hp
            have g2 := (hsl.2.2.2.2.2 q rfl (by omega)).2.1
            rw [add_eta g2]
            exact Rat.sub (hrat hrd' q rfl) l (h' - l)
      cases dmx with
      | none =>
        simp only [SR.done.injEq] at hs
        obtain ⟨rfl, rfl⟩ := hs
        have hm0 : mx = none := by
          cases mx with
          | none => rfl
          | some m => simp only [opdO] at hmx; obtain ⟨d', _, h2⟩ := Option.map_eq_some_iff.1 hmx; cases h2
        subst hm0
        refine ok_val h hd (res cap (so.cap.map (· - l)) (by omega) (Nat.le_refl _) (fun c hc => ?_)) ?_
        · obtain ⟨c0, hc0, rfl⟩ := Option.map_eq_some_iff.1 hc
          rw [hsl.2.2.2.1 c0 hc0]
        · have hbr := run_sliceBounds (P := P) (w := w) (isS := true) hbd hle
          simp only [execOp, hop, Instr.sliceAt, Instr.slice, Sem.run_bind, run_underlying hu, Result.andThen_ok, hv, Option.map_none, hbr, run_sizeP hsz, Sem.run_pure]
      | some dm =>
        simp only at hs
        split at hs
        · rename_i m hm
          cases hbm : (Nat.ble h' m && Nat.ble m xs.length) with
          | false => rw [hbm] at hs; cases hs
          | true =>
            rw [hbm] at hs
            simp only [cond_true, SR.done.injEq] at hs
            obtain ⟨rfl, rfl⟩ := hs
            simp only [Bool.and_eq_true] at hbm
            have m1 := Nat.le_of_ble_eq_true hbm.1
            have m2 := Nat.le_of_ble_eq_true hbm.2
            cases mx with
            | none => simp [opdO] at hmx
            | some xm =>
            simp only [opdO] at hmx
            obtain ⟨d', hxm, e2⟩ := Option.map_eq_some_iff.1 hmx
            cases e2
            obtain ⟨vm, hvm1, hvm2⟩ := bind_nat hm
            obtain ⟨km, hkm⟩ := nat?_sound hvm2 (opd_sound hxm hvm1 hfr)
            cases hi with
            | none => have := hmh rfl; cases this
            | some xh =>
            obtain ⟨b1, ⟨kh, hkh⟩, b3, b4⟩ := hbd
            refine ok_val h hd (res m (some (m - l)) m1 (by omega) (fun c hc => by cases hc; rfl)) ?_
            simp only [execOp, hop, Instr.sliceAt, Instr.slice, Sem.run_bind, run_underlying hu, Result.andThen_ok, hv, Option.map_some, Instr.sliceBounds, run_sliceBound hkm (show m ≤ cap by omega), run_sliceBound hkh m1, run_sizeP hsz, Sem.run_pure]
            cases lo with
            | none =>
              simp only at b1
              subst b1
              simp only [Option.map_none, Sem.run_bind, Sem.run_pure, Result.andThen_ok]
            | some xl =>
              obtain ⟨kl, hkl⟩ := b1
              simp only [Option.map_some, Sem.run_bind, run_sliceBound hkl b3, Sem.run_pure, Result.andThen_ok]
        · cases hs
    · cases hs
  · cases hs

theorem so_slP (h : Good P gt O S G w env a) (hd : ∀ d, o.dst = some d → O.N.ok d) {t e : TypeId} {n s : Nat} {x : Operand} {lo hi : Option Operand} {dx : DOpd} {dlo dhi : Option DOpd} (hop : o.op = .slice t x lo hi none) (hu : P.underlying t = some (.array n e)) (hsz : sizeP P e = some s) (hx : opdP P t x = some dx) (hlo : opdO P 0 lo = some dlo) (hhi : opdO P 0 hi = some dhi)
    (hs : stepO gt o.dst env S (.slP s n dx dlo dhi) = .done env' S') : OpOK P gt O o w a env' S' := by
  obtain ⟨fb, hfr⟩ := h.fr
  simp only [stepO] at hs
  split at hs
  · rename_i id off hl
    split at hs
    · rename_i ty cs l h' hbx hb
      cases hbb : (Nat.ble (off + n * s) cs.length && Nat.blt 0 s) with
      | false => rw [hbb] at hs; cases hs
      | true =>
      rw [hbb] at hs
      simp only [cond_true, SR.done.injEq] at hs
      obtain ⟨rfl, rfl⟩ := hs
      simp only [Bool.and_eq_true] at hbb
      have b1 := Nat.le_of_ble_eq_true hbb.1
      have b2 := blt_lt hbb.2
      obtain ⟨p, hp, hid, rfl⟩ := loc_sound hx hl hfr
      have hbd := bnds_sound hfr hlo hhi hb
      obtain ⟨_, c, fr, sf, pre, rest, hw, _, hc, hrl⟩ := h.inv.box id ty cs hbx
      have hcl : cs.length ≤ c.size := by
        have := hrl.length
        rw [← Array.length_toList, hc, List.length_append]; omega
      have t2 := Tr.newMoved (id := id) h.inv off hid
      have h34 := hbd.2.2
      have hrun : (execOp a.eval o).run P w = .ok (.value (.slice (some (if n = l then (⟨G.β id, off, none⟩ : Addr) else (⟨G.β id, off, none⟩ : Addr).add (l * s))) (h' - l) (n - l))) w := by
        have hbr := run_sliceBounds (P := P) (w := w) (isS := false) hbd (Nat.le_refl n)
        simp only [execOp, hop, Instr.sliceAt, Sem.run_bind, run_underlying hu, Result.andThen_ok, hp, Instr.sureAddr, Option.map_none, hbr, run_sizeP hsz, Sem.run_pure]
      refine ⟨_, _, .inl ⟨_, hrun, (h.step t2).putV hd ?_⟩⟩
      simp only [Rv]
      have hrd : rd { S with nt := S.nt + 1, tip := (S.nt, none) :: S.tip, mv := (S.nt, .bx id off) :: S.mv } ⟨some (S.nt, S.nt), l, some (n - l), false⟩ = .box id off := by
        unfold rd
        simp only [lk_same]
      refine ⟨_, _, _, rfl, ⟨by simp, by omega, by simp, fun c hc => (by simpa using hc), fun hc => (by cases hc), fun p hp hc => ?_⟩, fun hr => ?_⟩
      · rw [if_neg (by omega)] at hp
        cases hp
        have hmul : l * s + (n - l) * s = n * s := by rw [← Nat.add_mul]; congr 1; omega
        rw [add_none]
        refine ⟨b2, rfl, ⟨ty, c.size, ?_, ?_⟩, ?_⟩
        · simp only [World.shape?, hw]
        · simp only; omega
        · rw [hrd]
          exact ⟨hid, rfl, rfl, fun t l hh => by simp only [Option.some.injEq, Prod.mk.injEq] at hh; obtain ⟨rfl, rfl⟩ := hh; exact ⟨Nat.lt_succ_self _, upd_same _ _ _⟩⟩
      · rw [hrd] at hr; cases hr
    · cases hs
  · cases hs
end
end Go.Dn
