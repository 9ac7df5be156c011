/- One operation: what the abstract step says is what the machine does. First part. -/
import Derived.Test.YtinhgnepnkbpcaaGreatDoorDnO
set_option linter.unusedSimpArgs false
set_option linter.unusedVariables false
namespace Go.Dn
open Go Go.RowKit

def OpOK (P : Program) (gt : GT) (O : Orig) (o : Oper) (w : World) (a : Act) (env' : Env) (S' : St) : Prop :=
  ∃ w' G', (∃ v, (execOp a.eval o).run P w = .ok (.value v) w' ∧ Good P gt O S' G' w' env' (a.put o.dst v)) ∨
    ((execOp a.eval o).run P w = .ok .skip w' ∧ Good P gt O S' G' w' env' (a.put o.dst undef))

section
variable {P : Program} {gt : GT} {O : Orig} {S : St} {G : Gh} {w : World} {env env' : Env} {a : Act} {S' : St} {o : Oper}

theorem Good.get (h : Good P gt O S G w env a) : ∃ fb, FR O S G w env a fb := h.fr

/-- a value, the store as it was -/
theorem ok_val (h : Good P gt O S G w env a) (hd : ∀ d, o.dst = some d → O.N.ok d) {x : AV} {v : Value} (hx : Rv S G w x v) (hr : (execOp a.eval o).run P w = .ok (.value v) w) : OpOK P gt O o w a (putV o.dst x env) S :=
  ⟨w, G, .inl ⟨v, hr, h.putV hd hx⟩⟩

theorem ok_val' (h : Good P gt O S G w env a) (hd : ∀ d, o.dst = some d → O.N.ok d) {x : Option AV} (hs : SR.val o.dst env S x = .done env' S') (hr : ∀ y, x = some y → ∃ v, Rv S G w y v ∧ (execOp a.eval o).run P w = .ok (.value v) w) : OpOK P gt O o w a env' S' := by
  cases x with
  | none => simp [SR.val] at hs
  | some y =>
    simp only [SR.val, SR.done.injEq] at hs
    obtain ⟨rfl, rfl⟩ := hs
    obtain ⟨v, h1, h2⟩ := hr y rfl
    exact ok_val h hd h1 h2

theorem so_move (h : Good P gt O S G w env a) (hd : ∀ d, o.dst = some d → O.N.ok d) {x : Operand} {t : TypeId} {d : DOpd} (hop : o.op = .move x ∨ o.op = .assign x) (hp : opdP P t x = some d) (hs : SR.val o.dst env S (opd env d) = .done env' S') : OpOK P gt O o w a env' S' := by
  obtain ⟨fb, hf⟩ := h.fr
  refine ok_val' h hd hs fun y hy => ⟨_, opd_sound hp hy hf, ?_⟩
  rcases hop with hop | hop <;> simp [execOp, hop]

theorem so_pick (h : Good P gt O S G w env a) (hd : ∀ d, o.dst = some d → O.N.ok d) {c x y : Operand} {t : TypeId} {dc dx dy : DOpd} (hop : o.op = .pick c x y) (hc : opdP P t c = some dc) (hx : opdP P t x = some dx) (hy : opdP P t y = some dy)
    (hs : stepO gt o.dst env S (.pick dc dx dy) = .done env' S') : OpOK P gt O o w a env' S' := by
  obtain ⟨fb, hf⟩ := h.fr
  simp only [stepO] at hs
  split at hs
  · rename_i b hb
    have e := opd_sound hc hb hf
    simp only [Rv] at e
    refine ok_val' h hd hs fun z hz => ?_
    cases b with
    | true => exact ⟨_, opd_sound hx hz hf, by simp [execOp, hop, e, asBool]⟩
    | false => exact ⟨_, opd_sound hy hz hf, by simp [execOp, hop, e, asBool]⟩
  · cases hs

theorem zeroC_sound {e : TypeId} {z : List AV} (h : zeroC P e = some z) : ∃ zv, (∀ w, (zeroValue e).run P w = .ok zv w) ∧ ∀ S G w, Rl S G w z zv.cells.toList := by
  unfold zeroC at h
  cases hi : P.info? e with
  | none => rw [hi] at h; cases h
  | some i =>
    rw [hi] at h
    simp only at h
    cases hz : i.zero with
    | none => rw [hz] at h; cases h
    | some zv =>
      rw [hz] at h
      simp only at h
      cases hc : constC P e zv with
      | none => rw [hc] at h; cases h
      | some x =>
        rw [hc] at h
        simp only [Option.map_some, Option.some.injEq] at h
        subst h
        refine ⟨zv, fun w => ?_, fun S G w => (constC_sound hc).cells⟩
        simp [zeroValue, typeInfo, hi, hz]

theorem ok_newL (h : Good P gt O S G w env a) {d : Nat} (hdst : o.dst = some d) (hd : O.N.ok d) {cs : List AV} {vs : List Value} {ty : TypeId} (hr : Rl S G w cs vs)
    (hrun : (execOp a.eval o).run P w = .ok (.value (.pointer (some ⟨w.heap.size, 0, none⟩))) { w with heap := w.heap.push (.cells ⟨vs⟩ ty (0, 0)) }) : OpOK P gt O o w a ((d, .box cs) :: kill d env) S :=
  ⟨_, G, .inl ⟨_, hrun, by rw [hdst]; exact h.putBox hd ty hr⟩⟩

theorem ok_newH (h : Good P gt O S G w env a) (hd : ∀ d, o.dst = some d → O.N.ok d) {cs : List AV} {vs : List Value} {ty : TypeId} (hr : Rl S G w cs vs)
    (hrun : (execOp a.eval o).run P w = .ok (.value (.pointer (some ⟨w.heap.size, 0, none⟩))) { w with heap := w.heap.push (.cells ⟨vs⟩ ty (0, 0)) }) :
    OpOK P gt O o w a (putV o.dst (.ptr S.nb 0) env) { S with nb := S.nb + 1, boxes := (S.nb, some (ty, cs)) :: S.boxes } := by
  have h' := h.step (Tr.newBox (c := ⟨vs⟩) h.inv ty hr)
  refine ⟨_, _, .inl ⟨_, hrun, h'.putV hd ?_⟩⟩
  simp only [Rv, upd_same]
  exact ⟨Nat.lt_succ_self _, trivial⟩

theorem run_alloc {e : TypeId} {zv : Value} (hz : ∀ w, (zeroValue e).run P w = .ok zv w) (hop : o.op = .alloc e) : (execOp a.eval o).run P w = .ok (.value (.pointer (some ⟨w.heap.size, 0, none⟩))) { w with heap := w.heap.push (.cells ⟨zv.cells.toList⟩ e (0, 0)) } := by
  simp [execOp, hop, Instr.alloc, hz, newVar, newRow, newObj, Sem.run]

theorem run_box {e : TypeId} {x : Operand} (hop : o.op = .box e x) : (execOp a.eval o).run P w = .ok (.value (.pointer (some ⟨w.heap.size, 0, none⟩))) { w with heap := w.heap.push (.cells ⟨(a.eval x).cells.toList⟩ e (0, 0)) } := by
  simp [execOp, hop, Instr.box, newVar, newRow, newObj, Sem.run]

theorem so_alloc (h : Good P gt O S G w env a) (hd : ∀ d, o.dst = some d → O.N.ok d) {e : TypeId} {z : List AV} (hop : o.op = .alloc e) (hz : zeroC P e = some z) {b : Bool} (hs : stepO gt o.dst env S (if b then .alL z else .alH e z) = .done env' S') : OpOK P gt O o w a env' S' := by
  obtain ⟨zv, h1, h2⟩ := zeroC_sound hz
  cases b with
  | true =>
    simp only [if_true, stepO] at hs
    cases hdst : o.dst with
    | none => rw [hdst] at hs; cases hs
    | some d =>
      rw [hdst] at hs
      simp only [SR.done.injEq] at hs
      obtain ⟨rfl, rfl⟩ := hs
      exact ok_newL h hdst (hd d hdst) (h2 S G w) (run_alloc h1 hop)
  | false =>
    simp only [Bool.false_eq_true, if_false, stepO, SR.done.injEq] at hs
    obtain ⟨rfl, rfl⟩ := hs
    exact ok_newH h hd (h2 S G w) (run_alloc h1 hop)

theorem so_box (h : Good P gt O S G w env a) (hd : ∀ d, o.dst = some d → O.N.ok d) {e : TypeId} {x : Operand} {dx : DOpd} (hop : o.op = .box e x) (hx : opdP P e x = some dx) {b : Bool} (hs : stepO gt o.dst env S (if b then .bxL dx else .bxH e dx) = .done env' S') : OpOK P gt O o w a env' S' := by
  obtain ⟨fb, hf⟩ := h.fr
  cases b with
  | true =>
    simp only [if_true, stepO] at hs
    split at hs
    · rename_i d v hdst hv
      simp only [SR.done.injEq] at hs
      obtain ⟨rfl, rfl⟩ := hs
      exact ok_newL h hdst (hd d hdst) (opd_sound hx hv hf).cells (run_box hop)
    · cases hs
  | false =>
    simp only [Bool.false_eq_true, if_false, stepO] at hs
    split at hs
    · rename_i v hv
      simp only [SR.done.injEq] at hs
      obtain ⟨rfl, rfl⟩ := hs
      exact ok_newH h hd (opd_sound hx hv hf).cells (run_box hop)
    · cases hs

/-! ### structs and slices written out -/

theorem fold_set (off : Nat) : ∀ (l : List Value) (k : Nat) (cs : Array Value), off + k + l.length ≤ cs.size → ((l.zipIdx k).foldl (fun cs (p : Value × Nat) => cs.setIfInBounds (off + p.2) p.1) cs).toList = spl cs.toList (off + k) l
  | [], k, cs, _ => by simp [spl]
  | v :: l, k, cs, h => by
    simp only [List.zipIdx_cons, List.foldl_cons]
    rw [fold_set off l (k + 1) _ (by simp at h ⊢; omega)]
    rw [Array.toList_setIfInBounds, show off + (k + 1) = off + k + 1 by omega]
    exact spl_step (by simp at h ⊢; omega)

theorem fold_zip (v cs : Array Value) (off : Nat) (h : off + v.size ≤ cs.size) : (v.zipIdx.foldl (fun cs (p : Value × Nat) => cs.setIfInBounds (off + p.2) p.1) cs).toList = spl cs.toList off v.toList := by
  rw [← Array.foldl_toList, Array.toList_zipIdx]
  have := fold_set off v.toList 0 cs (by simpa using h)
  simpa using this

def PartsR (P : Program) (place : Nat → Option (Nat × Nat)) : List (Nat × Operand) → List (Nat × Nat × DOpd) → Prop
  | [], [] => True
  | p :: l, q :: ps => (place p.1 = some (q.1, q.2.1) ∧ ∃ t, opdP P t p.2 = some q.2.2) ∧ PartsR P place l ps
  | _, _ => False

/-- 'fill', with the places given -/
theorem fill_sound {fb : Nat → Nat} (hf : FR O S G w env a fb) {place : Nat → Option (Nat × Nat)} : ∀ {l : List (Nat × Operand)} {ps : List (Nat × Nat × DOpd)} {cs cs' : List AV} {vs : Array Value},
    PartsR P place l ps →
    Rl S G w cs vs.toList → fillC cs env ps = some cs' →
    ∃ vs', Instr.fill place vs (l.map fun p => (p.1, a.eval p.2)) = some vs' ∧ Rl S G w cs' vs'.toList
  | [], [], cs, cs', vs, _, hr, h => by
    simp only [fillC, Option.some.injEq] at h; subst h
    exact ⟨vs, rfl, hr⟩
  | [], _ :: _, _, _, _, hl, _, _ => hl.elim
  | _ :: _, [], _, _, _, hl, _, _ => hl.elim
  | p :: l, q :: ps, cs, cs', vs, hl, hr, h => by
      obtain ⟨⟨hpl, t, ht⟩, h2⟩ := hl
      obtain ⟨off, sz, d⟩ := q
      simp only [fillC] at h
      cases hv : opd env d with
      | none => rw [hv] at h; cases h
      | some v =>
        rw [hv] at h
        simp only at h
        cases hb : (Nat.beq v.cells.length sz && Nat.ble (off + sz) cs.length) with
        | false => rw [hb] at h; cases h
        | true =>
          rw [hb] at h
          simp only [cond_true] at h
          simp only [Bool.and_eq_true] at hb
          have b1 := Nat.eq_of_beq_eq_true hb.1
          have b2 := Nat.le_of_ble_eq_true hb.2
          have hx := opd_sound ht hv hf
          have hsz : (a.eval p.2).cells.size = sz := by rw [hx.cells_size, b1]
          have hlen : vs.size = cs.length := by simpa using hr.length
          have hr' : Rl S G w (splice cs off v.cells) ((a.eval p.2).cells.zipIdx.foldl (fun cs (p : Value × Nat) => cs.setIfInBounds (off + p.2) p.1) vs).toList := by
            rw [fold_zip _ _ _ (by omega)]
            exact splice_Rl hr hx.cells off
          obtain ⟨vs', g1, g2⟩ := fill_sound hf h2 hr' h
          refine ⟨vs', ?_, g2⟩
          simp only [List.map_cons, Instr.fill]
          simp only at hpl
          rw [hpl]
          simp only [hsz]
          rw [if_neg (by simp; omega)]
          exact g1

theorem partsP_R {fs : Array Field} {place : Nat → Option (Nat × Nat)} (hpl : ∀ (i : Nat) (f : Field) s, fs[i]? = some f → sizeP P f.type = some s → place i = some (f.offset, s)) : ∀ {l : List (Nat × Operand)} {ps : List (Nat × Nat × DOpd)}, partsP P fs l = some ps → PartsR P place l ps
  | [], ps, h => by simp only [partsP, Option.some.injEq] at h; subst h; trivial
  | (i, x) :: l, ps, h => by
    simp only [partsP] at h
    split at h
    · rename_i f hf
      split at h
      · rename_i s d r h1 h2 h3
        simp only [Option.some.injEq] at h
        subst h
        exact ⟨⟨hpl i f s hf h1, f.type, h2⟩, partsP_R hpl h3⟩
      · cases h
    · cases h

theorem partsA_R {e : TypeId} {s : Nat} : ∀ {l : List (Nat × Operand)} {ps : List (Nat × Nat × DOpd)}, partsA P e s l = some ps → PartsR P (fun i => some (i * s, s)) l ps
  | [], ps, h => by simp only [partsA, Option.some.injEq] at h; subst h; trivial
  | (i, x) :: l, ps, h => by
    simp only [partsA] at h
    split at h
    · rename_i d r h2 h3
      simp only [Option.some.injEq] at h
      subst h
      exact ⟨⟨rfl, e, h2⟩, partsA_R h3⟩
    · cases h

theorem places_run {fs : Array Field} (h : fs.toList.all (fun (f : Field) => (sizeP P f.type).isSome) = true) (w : World) : ∃ ps : Array (Nat × Nat), (fs.mapM (m := Sem) fun f => do pure (f.offset, ← sizeOf f.type)).run P w = .ok ps w ∧
    ∀ (i : Nat) (f : Field) s, fs[i]? = some f → sizeP P f.type = some s → ps[i]? = some (f.offset, s) := by
  have key : ∀ l : List Field, l.all (fun (f : Field) => (sizeP P f.type).isSome) = true → ∃ ps : List (Nat × Nat), (l.mapM (m := Sem) fun f => do pure (f.offset, ← sizeOf f.type)).run P w = .ok ps w ∧
      ∀ (i : Nat) (f : Field) s, l[i]? = some f → sizeP P f.type = some s → ps[i]? = some (f.offset, s) := by
    intro l
    induction l with
    | nil => intro _; exact ⟨[], by simp, fun i f s hi => by simp at hi⟩
    | cons f l ih =>
      intro hl
      simp only [List.all_cons, Bool.and_eq_true] at hl
      obtain ⟨ps, h1, h2⟩ := ih hl.2
      cases hs : sizeP P f.type with
      | none => rw [hs] at hl; cases hl.1
      | some s =>
        refine ⟨(f.offset, s) :: ps, by simp only [List.mapM_cons, Sem.run_bind, run_sizeP hs, Result.andThen_ok, h1, Sem.run_pure], fun i f' s' hi hs' => ?_⟩
        cases i with
        | zero => simp at hi; subst hi; rw [hs] at hs'; cases hs'; rfl
        | succ i => simp at hi; simpa using h2 i f' s' hi hs'
  obtain ⟨ps, h1, h2⟩ := key fs.toList h
  refine ⟨ps.toArray, ?_, fun i f s hi hs => by simpa using h2 i f s (by simpa using hi) hs⟩
  rw [Array.mapM_eq_mapM_toList, Sem.run_map, h1]
  rfl

theorem so_build (h : Good P gt O S G w env a) (hd : ∀ d, o.dst = some d → O.N.ok d) {t : TypeId} {z : List AV} {l : Array (Nat × Operand)} {ps : List (Nat × Nat × DOpd)} (hop : o.op = .build t l) (hz : zeroC P t = some z)
    (hp : (∃ fs, P.underlying t = some (.struct fs) ∧ fs.toList.all (fun (f : Field) => (sizeP P f.type).isSome) = true ∧ partsP P fs l.toList = some ps) ∨
      (∃ n e s, P.underlying t = some (.array n e) ∧ sizeP P e = some s ∧ partsA P e s l.toList = some ps))
    (hs : stepO gt o.dst env S (.bld z ps) = .done env' S') : OpOK P gt O o w a env' S' := by
  obtain ⟨fb, hf⟩ := h.fr
  obtain ⟨zv, h1, h2⟩ := zeroC_sound hz
  simp only [stepO] at hs
  refine ok_val' h hd hs fun y hy => ?_
  cases hc : fillC z env ps with
  | none => rw [hc] at hy; cases hy
  | some cs =>
    rw [hc] at hy
    simp only [Option.map_some, Option.some.injEq] at hy
    subst hy
    have hmap : (l.map fun (i, x) => (i, a.eval x)).toList = l.toList.map fun p => (p.1, a.eval p.2) := by simp
    rcases hp with ⟨fs, hu, hall, hp⟩ | ⟨n, e, s, hu, hse, hp⟩
    · obtain ⟨pl, k1, k2⟩ := places_run hall w
      obtain ⟨vs, g1, g2⟩ := fill_sound hf (partsP_R (place := fun i => pl[i]?) k2 hp) (h2 S G w) hc
      refine ⟨.agg vs, ?_, ?_⟩
      · simp only [Rv]; exact ⟨vs.toList, by simp, g2⟩
      · simp only [execOp, hop, Instr.build, Sem.run_bind, h1, Result.andThen_ok, run_underlying hu, k1, hmap, g1]
        rfl
    · obtain ⟨vs, g1, g2⟩ := fill_sound hf (partsA_R hp) (h2 S G w) hc
      refine ⟨.agg vs, ?_, ?_⟩
      · simp only [Rv]; exact ⟨vs.toList, by simp, g2⟩
      · simp only [execOp, hop, Instr.build, Sem.run_bind, h1, Result.andThen_ok, run_underlying hu, run_sizeP hse, hmap, g1]
        rfl
end
end Go.Dn
