/- One operation, sixth part: maps, slices that are made. -/
import Derived.Test.YthjebaophnkpbaaGreatDoorDnQd
namespace Go.Dn
open Go Go.RowKit

section
variable {P : Program} {gt : GT} {O : Orig} {S : St} {G : Gh} {w : World} {env env' : Env} {a : Act} {S' : St} {o : Oper}

/-! ### maps -/

theorem keyK_desc {t : TypeId} {ek : EqK} (h : keyK P t = some ek) : ∃ d, P.underlying t = some d ∧ ((d = .bool ∧ ek = .bool) ∨ (∃ k, d = .int k ∧ ek = .int) ∨ (d = .string ∧ ek = .str)) := by
  unfold keyK at h
  split at h
  · rename_i hu; cases h; exact ⟨_, hu, .inl ⟨rfl, rfl⟩⟩
  · rename_i k hu; cases h; exact ⟨_, hu, .inr (.inl ⟨k, rfl, rfl⟩)⟩
  · rename_i hu; cases h; exact ⟨_, hu, .inr (.inr ⟨rfl, rfl⟩)⟩
  · cases h

theorem sameNow_sound {t : TypeId} {ek : EqK} {d : TypeDesc} (hk : keyK P t = some ek) (hu : P.underlying t = some d) {x y : AV} {u v : Value} {b : Bool} (he : eqv ek x y = some b) (hx : Rv S G w x u) (hy : Rv S G w y v) : Instr.sameNow d u v = some b := by
  obtain ⟨d', hu', hd⟩ := keyK_desc hk
  rw [hu] at hu'
  cases hu'
  rcases hd with ⟨rfl, rfl⟩ | ⟨k, rfl, rfl⟩ | ⟨rfl, rfl⟩
  · simp only [eqv] at he
    unfold eqBool at he
    split at he
    · cases he; simp only [Rv] at hx hy; subst hx; subst hy; rfl
    · cases he
  · simp only [eqv] at he
    unfold eqInt at he
    split at he
    · split at he
      · rename_i hkk; cases he; simp only [Rv] at hx hy; subst hx; subst hy; simp [Instr.sameNow, hkk]
      · cases he
    · cases he
  · simp only [eqv] at he
    unfold eqStr at he
    split at he
    · rename_i s1 s2
      cases he; simp only [Rv] at hx hy; subst hx; subst hy
      simp only [Instr.sameNow, beq_toListBytes, ByteArray.toList_eq, beqB_eq]
    · cases he

theorem findNow_sound {t : TypeId} {ek : EqK} {d : TypeDesc} (hk : keyK P t = some ek) (hu : P.underlying t = some d) {k : AV} {kv : Value} (hkv : Rv S G w k kv) : ∀ {es : List (AV × AV)} {ents : List MapEntry} {i : Nat} {r : Option (Nat × AV)}, RlE S G w es ents → findK ek k es i = some r →
    match r with
    | none => Instr.findNow d kv ents i = some none
    | some (j, x) => ∃ v, Rv S G w x v ∧ Instr.findNow d kv ents i = some (some (j, v)) ∧ i ≤ j ∧ ∃ k', es[j - i]? = some (k', x) ∧ eqv ek k k' = some true
  | [], _, i, r, hr, hf => by
    simp only [RlE] at hr; subst hr
    simp only [findK, Option.some.injEq] at hf; subst hf
    rfl
  | (k', x) :: es, _, i, r, hr, hf => by
    obtain ⟨e, ents', rfl, h1, h2, h3⟩ := hr
    simp only [findK] at hf
    split at hf
    · rename_i he
      cases hf
      refine ⟨e.val, h2, ?_, Nat.le_refl _, k', by simp, he⟩
      simp only [Instr.findNow, sameNow_sound hk hu he hkv h1]
    · rename_i he
      have ih := findNow_sound hk hu hkv h3 hf
      have hs := sameNow_sound hk hu he hkv h1
      cases r with
      | none =>
        simp only at ih ⊢
        simp only [Instr.findNow, hs]; exact ih
      | some p =>
        obtain ⟨j, y⟩ := p
        simp only at ih ⊢
        obtain ⟨v, g1, g2, g3, k2, g4, g5⟩ := ih
        refine ⟨v, g1, by simp only [Instr.findNow, hs]; exact g2, by omega, k2, ?_, g5⟩
        rw [show j - i = (j - (i + 1)) + 1 by omega]
        simpa using g4
    · cases hf

theorem run_checkKey {t : TypeId} {ek : EqK} (hk : keyK P t = some ek) {b : Bool} {n : Nat} {v : Value} : (Instr.checkKey b (n + 1) t v).run P w = .ok () w := by
  obtain ⟨d, hu, hd⟩ := keyK_desc hk
  simp only [Instr.checkKey, Sem.run_bind, run_underlying hu, Result.andThen_ok]
  rcases hd with ⟨rfl, _⟩ | ⟨k, rfl, _⟩ | ⟨rfl, _⟩ <;> rfl

theorem run_getMap {b : Nat} {ents : Array MapEntry} {clk : Nat} (h : w.heap[b]? = some (.map ents clk)) : (getObj b).run P w = .ok (.map ents clk) w := by simp [getObj, Sem.run, h]

theorem so_lkp (h : Good P gt O S G w env a) (hd : ∀ d, o.dst = some d → d < O.N) {t kt e : TypeId} {ek : EqK} {z : AV} {m k : Operand} {dm dk : DOpd} {ok : Bool} {tm tk : TypeId} (hop : o.op = .lookup t m k ok) (hu : P.underlying t = some (.map kt e)) (hk : keyK P kt = some ek) (hz : elemC P e = some z) (hm : opdP P tm m = some dm) (hkk : opdP P tk k = some dk)
    (hs : stepO gt o.dst env S (.lkp ek z dm dk ok) = .done env' S') : OpOK P gt O o w a env' S' := by
  obtain ⟨fb, hfr⟩ := h.fr
  simp only [stepO] at hs
  split at hs
  · rename_i id ka hma hka
    split at hs
    · rename_i es hes
      have rm := opd_sound hm hma hfr
      have rk := opd_sound hkk hka hfr
      simp only [Rv] at rm
      obtain ⟨hid, rm⟩ := rm
      obtain ⟨es', ents, clk, e1, e2, e3⟩ := h.inv.map id hid
      rw [hes] at e1; cases e1
      obtain ⟨dd, hdu, _⟩ := keyK_desc hk
      obtain ⟨zv, z1, z2⟩ := elemC_sound hz
      have tup : ∀ {p : AV} {u : Value} {b : Bool}, Rv S G w p u → Rv S G w (bif ok then .tup [p, .bool b] else p) (if ok then .tuple #[u, .bool b] else u) := fun {p u b} hp => by
        cases ok
        · exact hp
        · simp only [cond_true, if_true, Rv]; exact ⟨_, rfl, Rl.cons hp (Rl.cons (by simp only [Rv]) Rl.nil)⟩
      split at hs
      · rename_i i x hf
        simp only [SR.done.injEq] at hs
        obtain ⟨rfl, rfl⟩ := hs
        obtain ⟨v, g1, g2, _⟩ := findNow_sound hk hdu rk e3 hf
        refine ok_val h hd (tup g1) ?_
        simp only [execOp, hop, Instr.lookup, Sem.run_bind, run_underlying hu, Result.andThen_ok, rm, run_getMap e2, Sem.run_pure, run_checkKey hk, Instr.findKey, run_underlying hdu, g2]
      · rename_i hf
        simp only [SR.done.injEq] at hs
        obtain ⟨rfl, rfl⟩ := hs
        have g2 := findNow_sound hk hdu rk e3 hf
        simp only at g2
        refine ok_val h hd (tup (z2 S G w)) ?_
        simp only [execOp, hop, Instr.lookup, Sem.run_bind, run_underlying hu, Result.andThen_ok, rm, run_getMap e2, Sem.run_pure, run_checkKey hk, Instr.findKey, run_underlying hdu, g2, z1]
      · cases hs
    · cases hs
  · cases hs

theorem RlE.set : ∀ {es : List (AV × AV)} {ents : List MapEntry}, RlE S G w es ents → ∀ (i : Nat) {k v : AV} {e : MapEntry}, Rv S G w k e.key → Rv S G w v e.val → RlE S G w (es.set i (k, v)) (ents.set i e)
  | [], _, h, i, k, v, e, _, _ => by simp only [RlE] at h; subst h; simp [RlE]
  | (k', v') :: r, _, h, i, k, v, e, hk, hv => by
    obtain ⟨e', es', rfl, h1, h2, h3⟩ := h
    cases i with
    | zero => exact ⟨e, es', rfl, hk, hv, h3⟩
    | succ i => exact ⟨e', _, rfl, h1, h2, RlE.set h3 i hk hv⟩

theorem RlE.snoc : ∀ {es : List (AV × AV)} {ents : List MapEntry}, RlE S G w es ents → ∀ {k v : AV} {e : MapEntry}, Rv S G w k e.key → Rv S G w v e.val → RlE S G w (es ++ [(k, v)]) (ents ++ [e])
  | [], _, h, k, v, e, hk, hv => by simp only [RlE] at h; subst h; exact ⟨e, [], rfl, hk, hv, rfl⟩
  | (k', v') :: r, _, h, k, v, e, hk, hv => by
    obtain ⟨e', es', rfl, h1, h2, h3⟩ := h
    exact ⟨e', _, rfl, h1, h2, RlE.snoc h3 hk hv⟩

theorem RlE.get : ∀ {es : List (AV × AV)} {ents : List MapEntry}, RlE S G w es ents → ∀ {i : Nat} {k v : AV}, es[i]? = some (k, v) → ∃ e, ents[i]? = some e ∧ Rv S G w k e.key ∧ Rv S G w v e.val
  | [], _, _, i, k, v, hx => by simp at hx
  | (k', v') :: r, _, h, i, k, v, hx => by
    obtain ⟨e', es', rfl, h1, h2, h3⟩ := h
    cases i with
    | zero => simp at hx; obtain ⟨rfl, rfl⟩ := hx; exact ⟨e', by simp, h1, h2⟩
    | succ i => simp at hx; obtain ⟨e, g1, g2⟩ := RlE.get h3 hx; exact ⟨e, by simpa using g1, g2⟩

theorem sameBits_sound {t : TypeId} {ek : EqK} (hk : keyK P t = some ek) {x y : AV} {u v : Value} (he : eqv ek x y = some true) (hx : Rv S G w x u) (hy : Rv S G w y v) : Instr.sameBits 10000 v u = true := by
  obtain ⟨d', hu', hd⟩ := keyK_desc hk
  rcases hd with ⟨rfl, rfl⟩ | ⟨k, rfl, rfl⟩ | ⟨rfl, rfl⟩
  · simp only [eqv] at he
    unfold eqBool at he
    split at he
    · simp only [Option.some.injEq, beq_iff_eq] at he; subst he; simp only [Rv] at hx hy; subst hx; subst hy; simp [Instr.sameBits]
    · cases he
  · simp only [eqv] at he
    unfold eqInt at he
    split at he
    · split at he
      · rename_i hkk; simp only [Option.some.injEq, beq_iff_eq] at he; subst he; subst hkk; simp only [Rv] at hx hy; subst hx; subst hy; simp [Instr.sameBits]
      · cases he
    · cases he
  · simp only [eqv] at he
    unfold eqStr at he
    split at he
    · rename_i s1 s2
      simp only [Option.some.injEq, beqB_eq, beq_iff_eq] at he; subst he; simp only [Rv] at hx hy; subst hx; subst hy
      simp only [Instr.sameBits, beq_toListBytes, beq_self_eq_true]
    · cases he

theorem so_mup (h : Good P gt O S G w env a) (hd : ∀ d, o.dst = some d → d < O.N) {t kt e : TypeId} {ek : EqK} {m k x : Operand} {dm dk dx : DOpd} {tm tk tx : TypeId} (hop : o.op = .mapUpdate t m k x ∨ o.op = .insert t m k x) (hu : P.underlying t = some (.map kt e)) (hk : keyK P kt = some ek) (hm : opdP P tm m = some dm) (hkk : opdP P tk k = some dk) (hx : opdP P tx x = some dx)
    (hs : stepO gt o.dst env S (.mup ek dm dk dx) = .done env' S') : OpOK P gt O o w a env' S' := by
  obtain ⟨fb, hfr⟩ := h.fr
  simp only [stepO] at hs
  split at hs
  · rename_i id ka xa hma hka hxa
    split at hs
    · rename_i es hes
      have rm := opd_sound hm hma hfr
      have rk := opd_sound hkk hka hfr
      have rx := opd_sound hx hxa hfr
      simp only [Rv] at rm
      obtain ⟨hid, rm⟩ := rm
      obtain ⟨es', ents, clk, e1, e2, e3⟩ := h.inv.map id hid
      rw [hes] at e1; cases e1
      obtain ⟨dd, hdu, _⟩ := keyK_desc hk
      have hrun : ∀ {w'}, (Instr.mapUpdate t (a.eval m) (a.eval k) (a.eval x)).run P w = .ok () w' → (execOp a.eval o).run P w = .ok .skip w' := fun {w'} hq => by
        rcases hop with hop | hop <;> simp [execOp, hop, hq]
      have hset : ∀ (o' : Obj), (setObj (G.μ id) o').run P w = .ok () (wBlk w (G.μ id) o') := fun o' => by simp [setObj, Sem.run, e2, wBlk]
      split at hs
      · rename_i i x' hf
        simp only [SR.done.injEq] at hs
        obtain ⟨rfl, rfl⟩ := hs
        obtain ⟨v, g1, g2, g3, k', g4, g5⟩ := findNow_sound hk hdu rk e3 hf
        simp only [Nat.sub_zero] at g4
        obtain ⟨en, n1, n2, n3⟩ := e3.get g4
        have n1' : ents[i]? = some en := by simpa using n1
        have hi : i < ents.size := by
          rcases Nat.lt_or_ge i ents.size with h' | h'
          · exact h'
          · rw [Array.getElem?_eq_none h'] at n1'; cases n1'
        have hmod : (ents.modify i fun e => { e with key := a.eval k, val := a.eval x }).toList = ents.toList.set i { en with key := a.eval k, val := a.eval x } := by
          apply List.ext_getElem?
          intro j
          rw [Array.getElem?_toList, Array.getElem?_modify, List.getElem?_set]
          by_cases e : i = j
          · subst e; rw [if_pos rfl, if_pos rfl, if_pos (by simpa using hi), n1']; rfl
          · simp [e]
        have hr : RlE S G w (es.set i (ka, xa)) (ents.modify i fun e => { e with key := a.eval k, val := a.eval x }).toList := by
          rw [hmod]; exact e3.set i rk rx
        refine ⟨_, G, .inr ⟨hrun (w' := wBlk w (G.μ id) (.map (ents.modify i fun e => { e with key := a.eval k, val := a.eval x }) clk)) ?_, (h.step (Tr.mapSet (clk' := clk) h.inv hid e2 hr)).putV hd (by simp [Rv])⟩⟩
        have hsb := sameBits_sound hk g5 rk n2
        simp only [Instr.mapUpdate, Sem.run_bind, run_underlying hu, Result.andThen_ok, rm, run_getMap e2, run_checkKey hk, Instr.findKey, run_underlying hdu, g2, Sem.run_pure, n1', Option.map_some, Option.getD_some, Instr.keyThatStays, hsb, if_true, hset]
      · rename_i hf
        simp only [SR.done.injEq] at hs
        obtain ⟨rfl, rfl⟩ := hs
        have g2 := findNow_sound hk hdu rk e3 hf
        simp only at g2
        have hr : RlE S G w (es ++ [(ka, xa)]) (ents.push { key := a.eval k, val := a.eval x, born := clk }).toList := by
          rw [Array.toList_push]; exact e3.snoc rk rx
        refine ⟨_, G, .inr ⟨hrun (w' := wBlk w (G.μ id) (.map (ents.push { key := a.eval k, val := a.eval x, born := clk }) (clk + 1))) ?_, (h.step (Tr.mapSet (clk' := clk + 1) h.inv hid e2 hr)).putV hd (by simp [Rv])⟩⟩
        simp only [Instr.mapUpdate, Sem.run_bind, run_underlying hu, Result.andThen_ok, rm, run_getMap e2, run_checkKey hk, Instr.findKey, run_underlying hdu, g2, Sem.run_pure, hset]
      · cases hs
    · cases hs
  · cases hs

/-! ### rows of elements -/

theorem Rat.ofCells {b es : Nat} : ∀ {xs : List AV} {us : List Value} {off : Nat}, Rl S G w (xs.flatMap AV.cells) us → (∀ x ∈ xs, x.cells.length = es) → (∀ j, j < us.length → w.cell? ⟨b, off + j, none⟩ = us[j]?) → Rat S G w b es xs off
  | [], _, _, _, _, _ => by simp [Rat]
  | x :: xs, us, off, h, hl, hc => by
    have hx := hl x (by simp)
    simp only [List.flatMap_cons] at h
    have hlen := h.length
    simp only [List.length_append] at hlen
    have h1 : Rl S G w x.cells (us.take es) := by
      have := h.take es
      rw [List.take_append_of_le_length (by omega), List.take_of_length_le (by omega)] at this
      exact this
    have h2 : Rl S G w (xs.flatMap AV.cells) (us.drop es) := by
      have := h.drop es
      rw [← hx, List.drop_left, hx] at this
      exact this
    simp only [Rat]
    refine ⟨?_, Rat.ofCells h2 (fun y hy => hl y (by simp [hy])) (fun j hj => ?_)⟩
    · have hv : ∃ v, Rv S G w x v ∧ v.cells.toList = us.take es := by
        by_cases ha : ∃ cs, x = .agg cs
        · obtain ⟨cs, rfl⟩ := ha
          exact ⟨.agg ⟨us.take es⟩, by simp only [Rv]; exact ⟨_, rfl, h1⟩, rfl⟩
        · have ha' : ∀ cs, x ≠ .agg cs := fun cs e => ha ⟨cs, e⟩
          have hcx : x.cells = [x] := by cases x <;> first | rfl | exact absurd rfl (ha' _)
          rw [hcx] at h1
          simp only [Rl] at h1
          obtain ⟨v, r, hvr, hv, rfl⟩ := h1
          exact ⟨v, hv, by rw [Value.cells_of_not_agg (hv.not_agg ha'), hvr]⟩
      obtain ⟨v, hv1, hv2⟩ := hv
      refine ⟨v, hv1, by rw [hv1.cells_size, hx], fun j hj => ?_⟩
      rw [hc j (by omega), ← Array.getElem?_toList, hv2, List.getElem?_take_of_lt hj]
    · simp only [List.length_drop] at hj
      rw [show off + es + j = off + (es + j) by omega, hc _ (by omega), List.getElem?_drop]

/-- the cells of a slice's elements -/
theorem Rat.cells {b es : Nat} : ∀ {xs : List AV} {off : Nat}, Rat S G w b es xs off → (∀ x ∈ xs, x.cells.length = es) ∧ ∃ us : List Value, Rl S G w (xs.flatMap AV.cells) us ∧ us.length = xs.length * es ∧ ∀ j, j < us.length → w.cell? ⟨b, off + j, none⟩ = us[j]?
  | [], _, _ => ⟨by simp, [], Rl.nil, by simp, fun j hj => by simp at hj⟩
  | x :: xs, off, h => by
    simp only [Rat] at h
    obtain ⟨⟨v, v1, v2, v3⟩, hra⟩ := h
    obtain ⟨hl, us, u1, u2, u3⟩ := hra.cells
    refine ⟨fun y hy => ?_, v.cells.toList ++ us, by simp only [List.flatMap_cons]; exact v1.cells.append u1, ?_, fun j hj => ?_⟩
    · rcases List.mem_cons.1 hy with rfl | hy
      · rw [← v1.cells_size, v2]
      · exact hl y hy
    · simp only [List.length_append, Array.length_toList, v2, u2, List.length_cons]; rw [Nat.add_mul]; omega
    · by_cases hj' : j < es
      · rw [v3 j hj', List.getElem?_append_left (by simpa [v2] using hj')]; simp
      · rw [List.getElem?_append_right (by simp [v2]; omega)]
        simp only [Array.length_toList, v2]
        rw [← u3 (j - es) (by simp [v2] at hj; omega), show off + j = off + es + (j - es) by omega]

theorem cutAll_sound {agg : Bool} {es : Nat} {cs : List AV} {pre : List Value} (hr : Rl S G w cs pre) : ∀ (n start : Nat) {xs : List AV}, cutAll agg es cs start n = some xs →
    xs.length = n ∧ (0 < n → start + n * es ≤ cs.length) ∧ (∀ x ∈ xs, x.cells.length = es) ∧ Rl S G w (xs.flatMap AV.cells) ((pre.drop start).take (n * es))
  | 0, start, xs, h => by
    simp only [cutAll, Option.some.injEq] at h; subst h
    simp [Rl]
  | n + 1, start, xs, h => by
    simp only [cutAll] at h
    split at h
    · rename_i x r h1 h2
      simp only [Option.some.injEq] at h
      subst h
      obtain ⟨c, hc, hm⟩ := Option.bind_eq_some_iff.1 h1
      obtain ⟨k1, k2, k3⟩ := hr.cut hc
      obtain ⟨g1, g2, g3, g4⟩ := cutAll_sound hr n (start + es) h2
      have hxc : x.cells = c := mkv_cells hm
      refine ⟨by simp [g1], fun _ => ?_, ?_, ?_⟩
      · by_cases h0 : 0 < n
        · have := g2 h0; rw [Nat.add_mul]; omega
        · have : n = 0 := by omega
          subst this; omega
      · intro y hy
        rcases List.mem_cons.1 hy with rfl | hy
        · rw [hxc]; exact k2
        · exact g3 y hy
      · simp only [List.flatMap_cons, hxc]
        have hsplit : (pre.drop start).take ((n + 1) * es) = (pre.drop start).take es ++ (pre.drop (start + es)).take (n * es) := by
          rw [show (n + 1) * es = es + n * es by rw [Nat.add_mul]; omega, List.take_add, List.drop_drop]
        rw [hsplit]
        exact k3.append g4
    · cases h
end
end Go.Dn
