/- One operation, sixth part: maps, slices that are made. -/
import Derived.Test.YtinhgnepnkbpcaaGreatDoorDnQd
set_option linter.unusedSimpArgs false
set_option linter.unusedVariables false
namespace Go.Dn
open Go Go.RowKit

section
variable {P : Program} {gt : GT} {O : Orig} {S : St} {G : Gh} {w : World} {env env' : Env} {a : Act} {S' : St} {o : Oper}

/-! ### maps -/

theorem keyK_desc {t : TypeId} {ek : EqK} (h : keyK P t = some ek) : ∃ d, P.underlying t = some d ∧ ((d = .bool ∧ ek = .bool) ∨ (∃ k, d = .int k ∧ ek = .int) ∨ (d = .string ∧ ek = .str) ∨
    (∃ fs, ek = .st fs ∧ eqkP P 8 t = some (.st fs) ∧ (fs.all fun p => simpleK p.2) = true ∧ ((∃ l, d = .struct l) ∨ ∃ n e, d = .array n e))) := by
  unfold keyK at h
  split at h
  · rename_i hu; cases h; exact ⟨_, hu, .inl ⟨rfl, rfl⟩⟩
  · rename_i k hu; cases h; exact ⟨_, hu, .inr (.inl ⟨k, rfl, rfl⟩)⟩
  · rename_i hu; cases h; exact ⟨_, hu, .inr (.inr (.inl ⟨rfl, rfl⟩))⟩
  · rename_i l hu
    split at h
    · rename_i fs he
      split at h
      · rename_i ha; cases h; exact ⟨_, hu, .inr (.inr (.inr ⟨fs, rfl, he, ha, .inl ⟨l, rfl⟩⟩))⟩
      · cases h
    · cases h
  · rename_i n e hu
    split at h
    · rename_i fs he
      split at h
      · rename_i ha; cases h; exact ⟨_, hu, .inr (.inr (.inr ⟨fs, rfl, he, ha, .inr ⟨n, e, rfl⟩⟩))⟩
      · cases h
    · cases h
  · cases h

def simpK (ek : EqK) : Prop := ∀ fs, ek ≠ .st fs

theorem sameNow_sound {t : TypeId} {ek : EqK} {d : TypeDesc} (hk : keyK P t = some ek) (hsk : simpK ek) (hu : P.underlying t = some d) {x y : AV} {u v : Value} {b : Bool} (he : eqv ek x y = some b) (hx : Rv S G w x u) (hy : Rv S G w y v) : Instr.sameNow d u v = some b := by
  obtain ⟨d', hu', hd⟩ := keyK_desc hk
  rw [hu] at hu'
  cases hu'
  rcases hd with ⟨rfl, rfl⟩ | ⟨k, rfl, rfl⟩ | ⟨rfl, rfl⟩ | ⟨fs, rfl, _⟩
  rotate_right
  · exact absurd rfl (hsk fs)
  · simp only [eqv] at he
    unfold eqBool at he
    split at he
    · cases he; simp only [Rv] at hx hy; subst hx; subst hy; rfl
    · cases he
  · simp only [eqv] at he
    unfold eqInt at he
    split at he
    · split at he
      · rename_i hkk; cases he; simp only [Rv] at hx hy; subst hx; subst hy; simp [Instr.sameNow, hkk]
      · cases he
    · cases he
  · simp only [eqv] at he
    unfold eqStr at he
    split at he
    · rename_i s1 s2
      cases he; simp only [Rv] at hx hy; subst hx; subst hy
      simp only [Instr.sameNow, beq_toListBytes, ByteArray.toList_eq, beqB_eq]
    · cases he

theorem findNow_sound {t : TypeId} {ek : EqK} {d : TypeDesc} (hk : keyK P t = some ek) (hsk : simpK ek) (hu : P.underlying t = some d) {k : AV} {kv : Value} (hkv : Rv S G w k kv) : ∀ {es : List (AV × AV)} {ents : List MapEntry} {i : Nat} {r : Option (Nat × AV)}, RlE S G w es ents → findK ek k es i = some r →
    match r with
    | none => Instr.findNow d kv ents i = some none
    | some (j, x) => ∃ v, Rv S G w x v ∧ Instr.findNow d kv ents i = some (some (j, v)) ∧ i ≤ j ∧ ∃ k', es[j - i]? = some (k', x) ∧ eqv ek k k' = some true
  | [], _, i, r, hr, hf => by
    simp only [RlE] at hr; subst hr
    simp only [findK, Option.some.injEq] at hf; subst hf
    rfl
  | (k', x) :: es, _, i, r, hr, hf => by
    obtain ⟨e, ents', rfl, h1, h2, h3⟩ := hr
    simp only [findK] at hf
    split at hf
    · rename_i he
      cases hf
      refine ⟨e.val, h2, ?_, Nat.le_refl _, k', by simp, he⟩
      simp only [Instr.findNow, sameNow_sound hk hsk hu he hkv h1]
    · rename_i he
      have ih := findNow_sound hk hsk hu hkv h3 hf
      have hs := sameNow_sound hk hsk hu he hkv h1
      cases r with
      | none =>
        simp only at ih ⊢
        simp only [Instr.findNow, hs]; exact ih
      | some p =>
        obtain ⟨j, y⟩ := p
        simp only at ih ⊢
        obtain ⟨v, g1, g2, g3, k2, g4, g5⟩ := ih
        refine ⟨v, g1, by simp only [Instr.findNow, hs]; exact g2, by omega, k2, ?_, g5⟩
        rw [show j - i = (j - (i + 1)) + 1 by omega]
        simpa using g4
    · cases hf

theorem eqkP_simple {d : Nat} {t : TypeId} {k : EqK} (h : eqkP P d t = some k) (hs : simpleK k = true) : ∃ u, P.underlying t = some u ∧ (u = .bool ∨ (∃ k, u = .int k) ∨ u = .string) := by
  cases d with
  | zero => cases h
  | succ d =>
    simp only [eqkP] at h
    split at h
    · rename_i hu; exact ⟨_, hu, .inl rfl⟩
    · rename_i k hu; exact ⟨_, hu, .inr (.inl ⟨k, rfl⟩)⟩
    · rename_i hu; exact ⟨_, hu, .inr (.inr rfl)⟩
    · split at h <;> cases h; cases hs
    · cases h; cases hs
    · cases h; cases hs
    · cases h; cases hs
    · cases h; cases hs
    · split at h
      · cases h
      · obtain ⟨_, _, rfl⟩ := Option.map_eq_some_iff.1 h; cases hs
    · split at h
      · obtain ⟨_, _, rfl⟩ := Option.map_eq_some_iff.1 h; cases hs
      · cases h
    · cases h

theorem run_checkSimple {t : TypeId} {u : TypeDesc} (hu : P.underlying t = some u) (hd : u = .bool ∨ (∃ k, u = .int k) ∨ u = .string) {b : Bool} {n : Nat} {v : Value} : (Instr.checkKey b (n + 1) t v).run P w = .ok () w := by
  simp only [Instr.checkKey, Sem.run_bind, run_underlying hu, Result.andThen_ok]
  rcases hd with rfl | ⟨k, rfl⟩ | rfl <;> rfl

theorem keyFs_get : ∀ {fs : List (Nat × EqK)} {cs : List AV} {i : Nat}, keyFs fs cs i = true → cs.length = fs.length ∧ ∀ j p, fs[j]? = some p → p.1 = i + j
  | [], [], i, _ => ⟨rfl, fun j p h => by simp at h⟩
  | [], _ :: _, i, h => by simp [keyFs] at h
  | _ :: _, [], i, h => by simp [keyFs] at h
  | q :: fs, c :: cs, i, h => by
    simp only [keyFs, Bool.and_eq_true] at h
    obtain ⟨h1, h2⟩ := keyFs_get h.2
    refine ⟨by simp [h1], fun j p hp => ?_⟩
    cases j with
    | zero => simp at hp; subst hp; rw [Nat.eq_of_beq_eq_true h.1]; rfl
    | succ j => rw [h2 j p (by simpa using hp)]; omega

theorem run_checkKey {t : TypeId} {ek : EqK} (hk : keyK P t = some ek) {b : Bool} {n : Nat} {k : AV} {v : Value} (hkv : keyV ek k = true) (hr : Rv S G w k v) : (Instr.checkKey b (n + 2) t v).run P w = .ok () w := by
  obtain ⟨d, hu, hd⟩ := keyK_desc hk
  rcases hd with ⟨rfl, _⟩ | ⟨k, rfl, _⟩ | ⟨rfl, _⟩ | ⟨fs, rfl, he, hall, hd⟩
  · exact run_checkSimple hu (.inl rfl)
  · exact run_checkSimple hu (.inr (.inl ⟨k, rfl⟩))
  · exact run_checkSimple hu (.inr (.inr rfl))
  · cases k <;> simp only [keyV, Bool.false_eq_true] at hkv
    rename_i cs
    simp only [Rv] at hr
    obtain ⟨vs, rfl, hr⟩ := hr
    obtain ⟨hlen, hoff⟩ := keyFs_get hkv
    have hvl := hr.length
    obtain ⟨dd, hdd⟩ : ∃ dd : Nat, 8 = dd + 1 := ⟨7, rfl⟩
    rw [hdd] at he
    rcases hd with ⟨l, rfl⟩ | ⟨m, e, rfl⟩
    · simp only [eqkP, hu] at he
      split at he
      · cases he
      · obtain ⟨ks, hm, hks⟩ := Option.map_eq_some_iff.1 he
        cases hks
        obtain ⟨n', hn'⟩ : ∃ n', n + 1 = n' := ⟨_, rfl⟩
        rw [show n + 2 = n' + 1 by rw [← hn']]
        simp only [Instr.checkKey, Sem.run_bind, run_underlying hu, Result.andThen_ok]
        subst hn'
        rw [← Array.forIn_toList]
        have hlt : ∀ p ∈ fs, p.1 < vs.length := fun p hp => by
          obtain ⟨j, hj, rfl⟩ := List.getElem_of_mem hp
          have := hoff j _ (List.getElem?_eq_getElem hj)
          omega
        clear hoff hlen hu he hkv hk
        generalize l.toList = L at hm ⊢
        induction L generalizing fs with
        | nil => simp
        | cons f L ih =>
          obtain ⟨k, ks', h1, h2, rfl⟩ := mapM_some_cons hm
          simp only [List.all_cons, Bool.and_eq_true] at hall
          split at h1
          · cases h1
          · rename_i hname
            split at h1
            · rename_i hagg
              obtain ⟨q, hq, rfl⟩ := Option.map_eq_some_iff.1 h1
              obtain ⟨u, hu1, hu2⟩ := eqkP_simple hq hall.1
              have hl := hlt _ (List.mem_cons_self ..)
              have p1 : (part f.type ⟨vs⟩ f.offset).run P w = .ok vs[f.offset] w := by simp [part, run_isAgg hagg, hl]
              simp only [List.forIn_cons, ne_eq, hname, not_false_eq_true, if_true, Sem.run_bind, p1, Result.andThen_ok, run_checkSimple hu1 hu2, Sem.run_pure]
              exact ih ks' hall.2 (fun p hp => hlt p (List.mem_cons_of_mem _ hp)) h2
            · cases h1
    · simp only [eqkP, hu] at he
      split at he
      · rename_i hagg hsz
        obtain ⟨q, hq, hqs⟩ := Option.map_eq_some_iff.1 he
        cases hqs
        obtain ⟨n', hn'⟩ : ∃ n', n + 1 = n' := ⟨_, rfl⟩
        rw [show n + 2 = n' + 1 by rw [← hn']]
        simp only [Instr.checkKey, Sem.run_bind, run_underlying hu, Result.andThen_ok]
        subst hn'
        simp only [Std.Legacy.Range.forIn_eq_forIn_range', Std.Legacy.Range.size, Nat.sub_zero, Nat.add_one_sub_one, Nat.div_one]
        simp only [List.length_map, List.length_range] at hlen
        have hlt : ∀ i ∈ List.range' 0 m, i < vs.length := fun i hi => by
          simp at hi; omega
        by_cases hm : m = 0
        · subst hm; simp
        · have hsk : simpleK q = true := List.all_eq_true.1 hall (0, q) (by simp; omega)
          obtain ⟨u, hu1, hu2⟩ := eqkP_simple hq hsk
          clear hoff hlen hu he hkv hall hm
          generalize List.range' 0 m = L at hlt ⊢
          induction L with
          | nil => simp
          | cons i L ih =>
            have hl := hlt i (List.mem_cons_self ..)
            have p1 : (part e ⟨vs⟩ i).run P w = .ok vs[i] w := by simp [part, run_isAgg hagg, hl]
            simp only [List.forIn_cons, Sem.run_bind, run_sizeP hsz, Nat.mul_one, p1, Result.andThen_ok, run_checkSimple hu1 hu2, Sem.run_pure]
            exact ih (fun p hp => hlt p (List.mem_cons_of_mem _ hp))
      · cases he

theorem findAsking_sound {t : TypeId} {ek : EqK} (he : eqkP P 8 t = some ek) {k : AV} {kv : Value} (hkv : Rv S G w k kv) : ∀ {es : List (AV × AV)} {ents : List MapEntry} {i : Nat} {r : Option (Nat × AV)}, RlE S G w es ents → findK ek k es i = some r →
    match r with
    | none => (Instr.findAsking t kv ents i).run P w = .ok none w
    | some (j, x) => ∃ v, Rv S G w x v ∧ (Instr.findAsking t kv ents i).run P w = .ok (some (j, v)) w ∧ i ≤ j ∧ ∃ k', es[j - i]? = some (k', x) ∧ eqv ek k k' = some true
  | [], _, i, r, hr, hf => by
    simp only [RlE] at hr; subst hr
    simp only [findK, Option.some.injEq] at hf; subst hf
    rfl
  | (k', x) :: es, _, i, r, hr, hf => by
    obtain ⟨e, ents', rfl, h1, h2, h3⟩ := hr
    simp only [findK] at hf
    split at hf
    · rename_i hq
      cases hf
      refine ⟨e.val, h2, ?_, Nat.le_refl _, k', by simp, hq⟩
      have := eqv_sound w 8 he hq hkv h1 Op.maxDepth (by decide)
      simp only [Instr.findAsking, Op.equal, Sem.run_bind, this, Result.andThen_ok, if_true, Sem.run_pure]
    · rename_i hq
      have ih := findAsking_sound he hkv h3 hf
      have hs := eqv_sound w 8 he hq hkv h1 Op.maxDepth (by decide)
      cases r with
      | none =>
        simp only at ih ⊢
        simp only [Instr.findAsking, Op.equal, Sem.run_bind, hs, Result.andThen_ok, Bool.false_eq_true, if_false]; exact ih
      | some p =>
        obtain ⟨j, y⟩ := p
        simp only at ih ⊢
        obtain ⟨v, g1, g2, g3, k2, g4, g5⟩ := ih
        refine ⟨v, g1, by simp only [Instr.findAsking, Op.equal, Sem.run_bind, hs, Result.andThen_ok, Bool.false_eq_true, if_false]; exact g2, by omega, k2, ?_, g5⟩
        rw [show j - i = (j - (i + 1)) + 1 by omega]
        simpa using g4
    · cases hf

theorem findKey_sound {t : TypeId} {ek : EqK} (hk : keyK P t = some ek) {k : AV} {kv : Value} (hkv : Rv S G w k kv) {es : List (AV × AV)} {ents : List MapEntry} {r : Option (Nat × AV)} (hr : RlE S G w es ents) (hf : findK ek k es 0 = some r) :
    match r with
    | none => (Instr.findKey t kv ents).run P w = .ok none w
    | some (j, x) => ∃ v, Rv S G w x v ∧ (Instr.findKey t kv ents).run P w = .ok (some (j, v)) w ∧ ∃ k', es[j]? = some (k', x) ∧ eqv ek k k' = some true := by
  obtain ⟨d, hu, hd⟩ := keyK_desc hk
  by_cases hs : simpK ek
  · have := findNow_sound hk hs hu hkv hr hf
    cases r with
    | none =>
      simp only at this ⊢
      simp only [Instr.findKey, Sem.run_bind, run_underlying hu, Result.andThen_ok, this, Sem.run_pure]
    | some p =>
      obtain ⟨j, x⟩ := p
      simp only at this ⊢
      obtain ⟨v, g1, g2, _, k', g4, g5⟩ := this
      exact ⟨v, g1, by simp only [Instr.findKey, Sem.run_bind, run_underlying hu, Result.andThen_ok, g2, Sem.run_pure], k', by simpa using g4, g5⟩
  · rcases hd with ⟨_, rfl⟩ | ⟨_, _, rfl⟩ | ⟨_, rfl⟩ | ⟨fs, rfl, he, _, hd⟩
    · exact absurd (fun fs h => by cases h) hs
    · exact absurd (fun fs h => by cases h) hs
    · exact absurd (fun fs h => by cases h) hs
    · have h0 : (Instr.findKey t kv ents).run P w = (Instr.findAsking t kv ents 0).run P w := by
        cases ents with
        | nil => simp only [Instr.findKey, Sem.run_bind, run_underlying hu, Result.andThen_ok, Instr.findNow, Instr.findAsking]
        | cons e ents =>
          have : Instr.findNow d kv (e :: ents) 0 = none := by
            simp only [Instr.findNow]
            rcases hd with ⟨l, rfl⟩ | ⟨m, e', rfl⟩ <;> simp [Instr.sameNow]
          simp only [Instr.findKey, Sem.run_bind, run_underlying hu, Result.andThen_ok, this]
      have := findAsking_sound he hkv hr hf
      cases r with
      | none => simp only at this ⊢; rw [h0]; exact this
      | some p =>
        obtain ⟨j, x⟩ := p
        simp only at this ⊢
        obtain ⟨v, g1, g2, _, k', g4, g5⟩ := this
        exact ⟨v, g1, by rw [h0]; exact g2, k', by simpa using g4, g5⟩

theorem run_getMap {b : Nat} {ents : Array MapEntry} {clk : Nat} (h : w.heap[b]? = some (.map ents clk)) : (getObj b).run P w = .ok (.map ents clk) w := by simp [getObj, Sem.run, h]

theorem so_lkp (h : Good P gt O S G w env a) (hd : ∀ d, o.dst = some d → O.N.ok d) {t kt e : TypeId} {ek : EqK} {z : AV} {m k : Operand} {dm dk : DOpd} {ok : Bool} {tm tk : TypeId} (hop : o.op = .lookup t m k ok) (hu : P.underlying t = some (.map kt e)) (hk : keyK P kt = some ek) (hz : elemC P e = some z) (hm : opdP P tm m = some dm) (hkk : opdP P tk k = some dk)
    (hs : stepO gt o.dst env S (.lkp ek z dm dk ok) = .done env' S') : OpOK P gt O o w a env' S' := by
  obtain ⟨fb, hfr⟩ := h.fr
  simp only [stepO] at hs
  split at hs
  · rename_i id ka hma hka
    cases hkv : keyV ek ka with
    | false => rw [hkv] at hs; cases hs
    | true =>
    rw [hkv] at hs
    simp only [cond_true] at hs
    split at hs
    · rename_i es hes
      have rm := opd_sound hm hma hfr
      have rk := opd_sound hkk hka hfr
      simp only [Rv] at rm
      obtain ⟨hid, rm⟩ := rm
      obtain ⟨es', ents, clk, e1, e2, e3⟩ := h.inv.map id hid
      rw [hes] at e1; cases e1
      obtain ⟨zv, z1, z2⟩ := elemC_sound hz
      have tup : ∀ {p : AV} {u : Value} {b : Bool}, Rv S G w p u → Rv S G w (bif ok then .tup [p, .bool b] else p) (if ok then .tuple #[u, .bool b] else u) := fun {p u b} hp => by
        cases ok
        · exact hp
        · simp only [cond_true, if_true, Rv]; exact ⟨_, rfl, Rl.cons hp (Rl.cons (by simp only [Rv]) Rl.nil)⟩
      split at hs
      · rename_i i x hf
        simp only [SR.done.injEq] at hs
        obtain ⟨rfl, rfl⟩ := hs
        obtain ⟨v, g1, g2, _⟩ := findKey_sound hk rk e3.1 hf
        refine ok_val h hd (tup g1) ?_
        simp only [execOp, hop, Instr.lookup, Sem.run_bind, run_underlying hu, Result.andThen_ok, rm, run_getMap e2, Sem.run_pure, run_checkKey hk hkv rk, g2]
      · rename_i hf
        simp only [SR.done.injEq] at hs
        obtain ⟨rfl, rfl⟩ := hs
        have g2 := findKey_sound hk rk e3.1 hf
        simp only at g2
        refine ok_val h hd (tup (z2 S G w)) ?_
        simp only [execOp, hop, Instr.lookup, Sem.run_bind, run_underlying hu, Result.andThen_ok, rm, run_getMap e2, Sem.run_pure, run_checkKey hk hkv rk, g2, z1]
      · cases hs
    · cases hs
  · cases hs

theorem RlE.set : ∀ {es : List (AV × AV)} {ents : List MapEntry}, RlE S G w es ents → ∀ (i : Nat) {k v : AV} {e : MapEntry}, Rv S G w k e.key → Rv S G w v e.val → RlE S G w (es.set i (k, v)) (ents.set i e)
  | [], _, h, i, k, v, e, _, _ => by simp only [RlE] at h; subst h; simp [RlE]
  | (k', v') :: r, _, h, i, k, v, e, hk, hv => by
    obtain ⟨e', es', rfl, h1, h2, h3⟩ := h
    cases i with
    | zero => exact ⟨e, es', rfl, hk, hv, h3⟩
    | succ i => exact ⟨e', _, rfl, h1, h2, RlE.set h3 i hk hv⟩

theorem RlE.snoc : ∀ {es : List (AV × AV)} {ents : List MapEntry}, RlE S G w es ents → ∀ {k v : AV} {e : MapEntry}, Rv S G w k e.key → Rv S G w v e.val → RlE S G w (es ++ [(k, v)]) (ents ++ [e])
  | [], _, h, k, v, e, hk, hv => by simp only [RlE] at h; subst h; exact ⟨e, [], rfl, hk, hv, rfl⟩
  | (k', v') :: r, _, h, k, v, e, hk, hv => by
    obtain ⟨e', es', rfl, h1, h2, h3⟩ := h
    exact ⟨e', _, rfl, h1, h2, RlE.snoc h3 hk hv⟩

theorem RlE.get : ∀ {es : List (AV × AV)} {ents : List MapEntry}, RlE S G w es ents → ∀ {i : Nat} {k v : AV}, es[i]? = some (k, v) → ∃ e, ents[i]? = some e ∧ Rv S G w k e.key ∧ Rv S G w v e.val
  | [], _, _, i, k, v, hx => by simp at hx
  | (k', v') :: r, _, h, i, k, v, hx => by
    obtain ⟨e', es', rfl, h1, h2, h3⟩ := h
    cases i with
    | zero => simp at hx; obtain ⟨rfl, rfl⟩ := hx; exact ⟨e', by simp, h1, h2⟩
    | succ i => simp at hx; obtain ⟨e, g1, g2⟩ := RlE.get h3 hx; exact ⟨e, by simpa using g1, g2⟩

theorem sameBits_simple {ek : EqK} (hk : simpleK ek = true) {x y : AV} {u v : Value} (he : eqv ek x y = some true) (hx : Rv S G w x u) (hy : Rv S G w y v) (n : Nat) : Instr.sameBits n v u = true := by
  cases ek <;> simp only [simpleK, Bool.false_eq_true] at hk
  · simp only [eqv] at he
    unfold eqBool at he
    split at he
    · simp only [Option.some.injEq, beq_iff_eq] at he; subst he; simp only [Rv] at hx hy; subst hx; subst hy; simp [Instr.sameBits]
    · cases he
  · simp only [eqv] at he
    unfold eqInt at he
    split at he
    · split at he
      · rename_i hkk; simp only [Option.some.injEq, beq_iff_eq] at he; subst he; subst hkk; simp only [Rv] at hx hy; subst hx; subst hy; simp [Instr.sameBits]
      · cases he
    · cases he
  · simp only [eqv] at he
    unfold eqStr at he
    split at he
    · rename_i s1 s2
      simp only [Option.some.injEq, beqB_eq, beq_iff_eq] at he; subst he; simp only [Rv] at hx hy; subst hx; subst hy
      simp only [Instr.sameBits, beq_toListBytes, beq_self_eq_true]
    · cases he

theorem sameBits_all (n : Nat) : ∀ {fs : List (Nat × EqK)} {c1 c2 d1 d2 : List AV} {i : Nat} {v1 v2 : List Value}, (fs.all fun p => simpleK p.2) = true → keyFs fs d1 i = true → keyFs fs d2 i = true → c1.drop i = d1 → c2.drop i = d2 → eqvs fs c1 c2 = some true → Rl S G w d1 v1 → Rl S G w d2 v2 →
    ((v2.zip v1).all fun (x, y) => Instr.sameBits n x y) = true
  | [], c1, c2, [], [], i, v1, v2, _, _, _, _, _, _, h1, h2 => by
    simp only [Rl] at h1 h2; subst h1; subst h2; rfl
  | [], _, _, _ :: _, _, _, _, _, _, h, _, _, _, _, _, _ => by simp [keyFs] at h
  | [], _, _, [], _ :: _, _, _, _, _, _, h, _, _, _, _, _ => by simp [keyFs] at h
  | _ :: _, _, _, [], _, _, _, _, _, h, _, _, _, _, _, _ => by simp [keyFs] at h
  | _ :: _, _, _, _ :: _, [], _, _, _, _, _, h, _, _, _, _, _ => by simp [keyFs] at h
  | (o, k) :: fs, c1, c2, x :: d1, y :: d2, i, v1, v2, hall, k1, k2, e1, e2, he, h1, h2 => by
    simp only [keyFs, Bool.and_eq_true] at k1 k2
    simp only [List.all_cons, Bool.and_eq_true] at hall
    have hoi : o = i := Nat.eq_of_beq_eq_true k1.1
    subst hoi
    obtain ⟨u1, r1, rfl, hu1, hr1⟩ := h1
    obtain ⟨u2, r2, rfl, hu2, hr2⟩ := h2
    have x1 : c1[o]? = some x := by rw [← List.head?_drop, e1]; rfl
    have x2 : c2[o]? = some y := by rw [← List.head?_drop, e2]; rfl
    have t1 : c1.drop (o + 1) = d1 := by rw [← List.tail_drop, e1]; rfl
    have t2 : c2.drop (o + 1) = d2 := by rw [← List.tail_drop, e2]; rfl
    simp only [eqvs, x1, x2] at he
    split at he
    · rename_i hq
      simp only [List.zip_cons_cons, List.all_cons, Bool.and_eq_true]
      exact ⟨sameBits_simple hall.1 hq hu1 hu2 n, sameBits_all n hall.2 k1.2 k2.2 t1 t2 he hr1 hr2⟩
    · cases he
    · cases he

theorem sameBits_sound {t : TypeId} {ek : EqK} (hk : keyK P t = some ek) {x y : AV} {u v : Value} (he : eqv ek x y = some true) (hvx : keyV ek x = true) (hvy : keyV ek y = true) (hx : Rv S G w x u) (hy : Rv S G w y v) : Instr.sameBits 10000 v u = true := by
  obtain ⟨d', hu', hd⟩ := keyK_desc hk
  rcases hd with ⟨rfl, rfl⟩ | ⟨k, rfl, rfl⟩ | ⟨rfl, rfl⟩ | ⟨fs, rfl, _, hall, _⟩
  · exact sameBits_simple rfl he hx hy _
  · exact sameBits_simple rfl he hx hy _
  · exact sameBits_simple rfl he hx hy _
  · cases x <;> simp only [keyV, Bool.false_eq_true] at hvx
    cases y <;> simp only [keyV, Bool.false_eq_true] at hvy
    rename_i c1 c2
    simp only [Rv] at hx hy
    obtain ⟨v1, rfl, r1⟩ := hx
    obtain ⟨v2, rfl, r2⟩ := hy
    simp only [eqv, aggs] at he
    have l1 := (keyFs_get hvx).1
    have l2 := (keyFs_get hvy).1
    have m1 := r1.length
    have m2 := r2.length
    simp only [Instr.sameBits, Bool.and_eq_true]
    refine ⟨by simp; omega, ?_⟩
    exact sameBits_all _ hall hvx hvy rfl rfl he r1 r2

theorem RlE.same_length : ∀ {es : List (AV × AV)} {ents : List MapEntry}, RlE S G w es ents → ents.length = es.length
  | [], _, h => by simp only [RlE] at h; subst h; rfl
  | (k', v') :: r, _, h => by
    obtain ⟨e', es', rfl, h1, h2, h3⟩ := h
    simp [h3.same_length]

theorem Born.set {l : List MapEntry} {clk i : Nat} (h : Born l clk) {e e' : MapEntry} (he : l[i]? = some e) (hb : e'.born = e.born) : Born (l.set i e') clk := by
  refine ⟨by rw [List.length_set]; exact h.1, fun j x hx => ?_⟩
  rw [List.getElem?_set] at hx
  split at hx
  · rename_i hij
    subst hij
    split at hx
    · cases hx; rw [hb]; exact h.2 _ _ he
    · cases hx
  · exact h.2 _ _ hx

theorem Born.push {l : List MapEntry} {clk : Nat} (h : Born l clk) {e : MapEntry} (hb : e.born = clk) : Born (l ++ [e]) (clk + 1) := by
  refine ⟨by simp [h.1], fun j x hx => ?_⟩
  rcases Nat.lt_or_ge j l.length with hj | hj
  · rw [List.getElem?_append_left hj] at hx; exact h.2 _ _ hx
  · rw [List.getElem?_append_right hj] at hx
    cases hjj : j - l.length with
    | zero => rw [hjj] at hx; simp at hx; subst hx; rw [hb, h.1]; omega
    | succ m => rw [hjj] at hx; simp at hx

theorem modify_toList {ents : Array MapEntry} {i : Nat} {en : MapEntry} (hn : ents[i]? = some en) (f : MapEntry → MapEntry) : (ents.modify i f).toList = ents.toList.set i (f en) := by
  have hi : i < ents.size := by
    rcases Nat.lt_or_ge i ents.size with h' | h'
    · exact h'
    · rw [Array.getElem?_eq_none h'] at hn; cases hn
  apply List.ext_getElem?
  intro j
  rw [Array.getElem?_toList, Array.getElem?_modify, List.getElem?_set]
  by_cases e : i = j
  · subst e; rw [if_pos rfl, if_pos rfl, if_pos (by simpa using hi), hn]; rfl
  · simp [e]

theorem so_mup (h : Good P gt O S G w env a) (hd : ∀ d, o.dst = some d → O.N.ok d) {t kt e : TypeId} {ek : EqK} {m k x : Operand} {dm dk dx : DOpd} {tm tk tx : TypeId} (hop : o.op = .mapUpdate t m k x ∨ o.op = .insert t m k x) (hu : P.underlying t = some (.map kt e)) (hk : keyK P kt = some ek) (hm : opdP P tm m = some dm) (hkk : opdP P tk k = some dk) (hx : opdP P tx x = some dx)
    (hs : stepO gt o.dst env S (.mup ek dm dk dx) = .done env' S') : OpOK P gt O o w a env' S' := by
  obtain ⟨fb, hfr⟩ := h.fr
  simp only [stepO] at hs
  split at hs
  · rename_i id ka xa hma hka hxa
    cases hkv : keyV ek ka with
    | false => rw [hkv] at hs; cases hs
    | true =>
    rw [hkv] at hs
    simp only [cond_true] at hs
    split at hs
    · rename_i es hes
      have rm := opd_sound hm hma hfr
      have rk := opd_sound hkk hka hfr
      have rx := opd_sound hx hxa hfr
      simp only [Rv] at rm
      obtain ⟨hid, rm⟩ := rm
      obtain ⟨es', ents, clk, e1, e2, e3⟩ := h.inv.map id hid
      rw [hes] at e1; cases e1
      have hrun : ∀ {w'}, (Instr.mapUpdate t (a.eval m) (a.eval k) (a.eval x)).run P w = .ok () w' → (execOp a.eval o).run P w = .ok .skip w' := fun {w'} hq => by
        rcases hop with hop | hop <;> simp [execOp, hop, hq]
      have hset : ∀ (o' : Obj), (setObj (G.μ id) o').run P w = .ok () (wBlk w (G.μ id) o') := fun o' => by simp [setObj, Sem.run, e2, wBlk]
      split at hs
      · rename_i i x' hf
        cases hka' : keyAt ek es i with
        | false => rw [hka'] at hs; cases hs
        | true =>
        rw [hka'] at hs
        simp only [cond_true, SR.done.injEq] at hs
        obtain ⟨rfl, rfl⟩ := hs
        obtain ⟨v, g1, g2, k', g4, g5⟩ := findKey_sound hk rk e3.1 hf
        simp only [keyAt, g4] at hka'
        obtain ⟨en, n1, n2, n3⟩ := e3.1.get g4
        have n1' : ents[i]? = some en := by simpa using n1
        have hr : RlM S G w (es.set i (ka, xa)) (ents.modify i fun e => { e with key := a.eval k, val := a.eval x }) clk := by
          refine ⟨?_, ?_⟩ <;> rw [modify_toList n1']
          · exact e3.1.set i rk rx
          · exact Born.set e3.2 n1 rfl
        refine ⟨_, G, .inr ⟨hrun (w' := wBlk w (G.μ id) (.map (ents.modify i fun e => { e with key := a.eval k, val := a.eval x }) clk)) ?_, (h.step (Tr.mapSet (clk' := clk) h.inv hid e2 hr)).putV hd (by simp [Rv])⟩⟩
        have hsb := sameBits_sound hk g5 hkv hka' rk n2
        simp only [Instr.mapUpdate, Sem.run_bind, run_underlying hu, Result.andThen_ok, rm, run_getMap e2, run_checkKey hk hkv rk, g2, Sem.run_pure, n1', Option.map_some, Option.getD_some, Instr.keyThatStays, hsb, if_true, hset]
      · rename_i hf
        simp only [SR.done.injEq] at hs
        obtain ⟨rfl, rfl⟩ := hs
        have g2 := findKey_sound hk rk e3.1 hf
        simp only at g2
        have hr : RlM S G w (es ++ [(ka, xa)]) (ents.push { key := a.eval k, val := a.eval x, born := clk }) (clk + 1) := by
          refine ⟨?_, ?_⟩ <;> rw [Array.toList_push]
          · exact e3.1.snoc rk rx
          · exact e3.2.push rfl
        refine ⟨_, G, .inr ⟨hrun (w' := wBlk w (G.μ id) (.map (ents.push { key := a.eval k, val := a.eval x, born := clk }) (clk + 1))) ?_, (h.step (Tr.mapSet (clk' := clk + 1) h.inv hid e2 hr)).putV hd (by simp [Rv])⟩⟩
        simp only [Instr.mapUpdate, Sem.run_bind, run_underlying hu, Result.andThen_ok, rm, run_getMap e2, run_checkKey hk hkv rk, g2, Sem.run_pure, hset]
      · cases hs
    · cases hs
  · cases hs

theorem so_mpe (h : Good P gt O S G w env a) (hd : ∀ d, o.dst = some d → O.N.ok d) {t kt e : TypeId} {ek : EqK} {z : AV} {m k : Operand} {dm dk : DOpd} {tm tk : TypeId} (hop : o.op = .mapEntry t m k) (hu : P.underlying t = some (.map kt e)) (hk : keyK P kt = some ek) (hz : elemC P e = some z) (hm : opdP P tm m = some dm) (hkk : opdP P tk k = some dk)
    (hs : stepO gt o.dst env S (.mpe ek z dm dk) = .done env' S') : OpOK P gt O o w a env' S' := by
  obtain ⟨fb, hfr⟩ := h.fr
  simp only [stepO] at hs
  split at hs
  · rename_i id ka hma hka
    cases hkv : keyV ek ka with
    | false => rw [hkv] at hs; cases hs
    | true =>
    rw [hkv] at hs
    simp only [cond_true] at hs
    split at hs
    · rename_i es hes
      have rm := opd_sound hm hma hfr
      have rk := opd_sound hkk hka hfr
      simp only [Rv] at rm
      obtain ⟨hid, rm⟩ := rm
      obtain ⟨es', ents, clk, e1, e2, e3⟩ := h.inv.map id hid
      rw [hes] at e1; cases e1
      obtain ⟨zv, z1, z2⟩ := elemC_sound hz
      have hrun : ∀ {v w'}, (Instr.mapEntry t (a.eval m) (a.eval k)).run P w = .ok v w' → (execOp a.eval o).run P w = .ok (.value v) w' := fun {v w'} hq => by
        simp [execOp, hop, hq]
      have hset : ∀ (o' : Obj), (setObj (G.μ id) o').run P w = .ok () (wBlk w (G.μ id) o') := fun o' => by simp [setObj, Sem.run, e2, wBlk]
      split at hs
      · rename_i i x' hf
        cases hka' : keyAt ek es i with
        | false => rw [hka'] at hs; cases hs
        | true =>
        rw [hka'] at hs
        simp only [cond_true, SR.done.injEq] at hs
        obtain ⟨rfl, rfl⟩ := hs
        obtain ⟨v, g1, g2, k', g4, g5⟩ := findKey_sound hk rk e3.1 hf
        simp only [keyAt, g4] at hka'
        obtain ⟨en, n1, n2, n3⟩ := e3.1.get g4
        have n1' : ents[i]? = some en := by simpa using n1
        have hborn : en.born = i := e3.2.2 i en n1
        have hr : RlM S G w (es.set i (ka, x')) (ents.modify i fun e => { e with key := a.eval k }) clk := by
          refine ⟨?_, ?_⟩ <;> rw [modify_toList n1']
          · exact e3.1.set i rk n3
          · exact Born.set e3.2 n1 rfl
        have htr := Tr.mapSet (clk' := clk) h.inv hid e2 hr
        refine ⟨_, G, .inl ⟨.tuple #[v, .int .i64 i], hrun (w' := wBlk w (G.μ id) (.map (ents.modify i fun e => { e with key := a.eval k }) clk)) ?_, (h.step htr).putV hd ?_⟩⟩
        · have hsb := sameBits_sound hk g5 hkv hka' rk n2
          simp only [Instr.mapEntry, Sem.run_bind, run_underlying hu, Result.andThen_ok, rm, run_getMap e2, run_checkKey hk hkv rk, g2, Sem.run_pure, n1', Option.map_some, Option.getD_some, Instr.keyThatStays, hsb, if_true, hset, hborn, goInt]
        · simp only [Rv]
          exact ⟨_, rfl, Rl.cons (g1.mono htr.ext) (Rl.cons (by simp only [Rv]) Rl.nil)⟩
      · rename_i hf
        simp only [SR.done.injEq] at hs
        obtain ⟨rfl, rfl⟩ := hs
        have g2 := findKey_sound hk rk e3.1 hf
        simp only at g2
        have hr : RlM S G w (es ++ [(ka, z)]) (ents.push { key := a.eval k, val := zv, born := clk }) (clk + 1) := by
          refine ⟨?_, ?_⟩ <;> rw [Array.toList_push]
          · exact e3.1.snoc rk (z2 S G w)
          · exact e3.2.push rfl
        have htr := Tr.mapSet (clk' := clk + 1) h.inv hid e2 hr
        have hclk : clk = es.length := by rw [e3.2.1, e3.1.same_length]
        refine ⟨_, G, .inl ⟨.tuple #[zv, .int .i64 clk], hrun (w' := wBlk w (G.μ id) (.map (ents.push { key := a.eval k, val := zv, born := clk }) (clk + 1))) ?_, (h.step htr).putV hd ?_⟩⟩
        · simp only [Instr.mapEntry, Sem.run_bind, run_underlying hu, Result.andThen_ok, rm, run_getMap e2, run_checkKey hk hkv rk, g2, z1, Sem.run_pure, hset, goInt]
        · simp only [Rv]
          exact ⟨_, rfl, Rl.cons (z2 _ _ _) (Rl.cons (by simp only [Rv]; rw [hclk]) Rl.nil)⟩
      · cases hs
    · cases hs
  · cases hs

theorem findIdx_born {l : List MapEntry} {clk i : Nat} (h : Born l clk) (hi : i < l.length) : l.findIdx? (fun e => (e.born : Int) == (i : Int)) = some i := by
  rw [List.findIdx?_eq_some_iff_getElem]
  refine ⟨hi, ?_, fun j hj => ?_⟩
  · have := h.2 i _ (List.getElem?_eq_getElem hi)
    simp [this]
  · have := h.2 j _ (List.getElem?_eq_getElem (by omega))
    simp [this]; omega

theorem so_ens (h : Good P gt O S G w env a) (hd : ∀ d, o.dst = some d → O.N.ok d) {t kt e : TypeId} {m s x : Operand} {dm ds dx : DOpd} {tm ts tx : TypeId} (hop : o.op = .entryStore t m s x) (_hu : P.underlying t = some (.map kt e)) (hm : opdP P tm m = some dm) (hss : opdP P ts s = some ds) (hx : opdP P tx x = some dx)
    (hs : stepO gt o.dst env S (.ens dm ds dx) = .done env' S') : OpOK P gt O o w a env' S' := by
  obtain ⟨fb, hfr⟩ := h.fr
  simp only [stepO] at hs
  split at hs
  · rename_i id kd i xa hma hsa hxa
    split at hs
    · rename_i es hes
      split at hs
      · rename_i ka xo hei
        simp only [SR.done.injEq] at hs
        obtain ⟨rfl, rfl⟩ := hs
        have rm := opd_sound hm hma hfr
        have rs := opd_sound hss hsa hfr
        have rx := opd_sound hx hxa hfr
        simp only [Rv] at rm rs
        obtain ⟨hid, rm⟩ := rm
        obtain ⟨es', ents, clk, e1, e2, e3⟩ := h.inv.map id hid
        rw [hes] at e1; cases e1
        obtain ⟨en, n1, n2, n3⟩ := e3.1.get hei
        have n1' : ents[i]? = some en := by simpa using n1
        have hset : ∀ (o' : Obj), (setObj (G.μ id) o').run P w = .ok () (wBlk w (G.μ id) o') := fun o' => by simp [setObj, Sem.run, e2, wBlk]
        have hr : RlM S G w (es.set i (ka, xa)) (ents.modify i fun e => { e with val := a.eval x }) clk := by
          refine ⟨?_, ?_⟩ <;> rw [modify_toList n1']
          · exact e3.1.set i n2 rx
          · exact Born.set e3.2 n1 rfl
        have hil : i < ents.toList.length := (List.getElem?_eq_some_iff.1 n1).1
        have hfi : ents.findIdx? (fun e => (e.born : Int) == Int.ofNat i) = some i := by
          have h0 := List.findIdx?_toArray (p := fun e : MapEntry => (e.born : Int) == Int.ofNat i) (l := ents.toList)
          rw [Array.toArray_toList] at h0
          rw [h0]
          exact findIdx_born e3.2 hil
        refine ⟨_, G, .inr ⟨?_, (h.step (Tr.mapSet (clk' := clk) h.inv hid e2 hr)).putV hd (by simp [Rv])⟩⟩
        simp only [execOp, hop, Instr.entryStore, Sem.run_bind, rm, run_getMap e2, Result.andThen_ok, rs, asInt, asIntOf, Sem.run_pure, Sem.run_map, hfi, hset]
      · cases hs
    · cases hs
  · cases hs

/-! ### rows of elements -/

theorem Rat.ofCells {b es : Nat} : ∀ {xs : List AV} {us : List Value} {off : Nat}, Rl S G w (xs.flatMap AV.cells) us → (∀ x ∈ xs, x.cells.length = es) → (∀ j, j < us.length → w.cell? ⟨b, off + j, none⟩ = us[j]?) → Rat S G w b es xs off
  | [], _, _, _, _, _ => by simp [Rat]
  | x :: xs, us, off, h, hl, hc => by
    have hx := hl x (by simp)
    simp only [List.flatMap_cons] at h
    have hlen := h.length
    simp only [List.length_append] at hlen
    have h1 : Rl S G w x.cells (us.take es) := by
      have := h.take es
      rw [List.take_append_of_le_length (by omega), List.take_of_length_le (by omega)] at this
      exact this
    have h2 : Rl S G w (xs.flatMap AV.cells) (us.drop es) := by
      have := h.drop es
      rw [← hx, List.drop_left, hx] at this
      exact this
    simp only [Rat]
    refine ⟨?_, Rat.ofCells h2 (fun y hy => hl y (by simp [hy])) (fun j hj => ?_)⟩
    · have hv : ∃ v, Rv S G w x v ∧ v.cells.toList = us.take es := by
        by_cases ha : ∃ cs, x = .agg cs
        · obtain ⟨cs, rfl⟩ := ha
          exact ⟨.agg ⟨us.take es⟩, by simp only [Rv]; exact ⟨_, rfl, h1⟩, rfl⟩
        · have ha' : ∀ cs, x ≠ .agg cs := fun cs e => ha ⟨cs, e⟩
          have hcx : x.cells = [x] := by cases x <;> first | rfl | exact absurd rfl (ha' _)
          rw [hcx] at h1
          simp only [Rl] at h1
          obtain ⟨v, r, hvr, hv, rfl⟩ := h1
          exact ⟨v, hv, by rw [Value.cells_of_not_agg (hv.not_agg ha'), hvr]⟩
      obtain ⟨v, hv1, hv2⟩ := hv
      refine ⟨v, hv1, by rw [hv1.cells_size, hx], fun j hj => ?_⟩
      rw [hc j (by omega), ← Array.getElem?_toList, hv2, List.getElem?_take_of_lt hj]
    · simp only [List.length_drop] at hj
      rw [show off + es + j = off + (es + j) by omega, hc _ (by omega), List.getElem?_drop]

/-- the cells of a slice's elements -/
theorem Rat.cells {b es : Nat} : ∀ {xs : List AV} {off : Nat}, Rat S G w b es xs off → (∀ x ∈ xs, x.cells.length = es) ∧ ∃ us : List Value, Rl S G w (xs.flatMap AV.cells) us ∧ us.length = xs.length * es ∧ ∀ j, j < us.length → w.cell? ⟨b, off + j, none⟩ = us[j]?
  | [], _, _ => ⟨by simp, [], Rl.nil, by simp, fun j hj => by simp at hj⟩
  | x :: xs, off, h => by
    simp only [Rat] at h
    obtain ⟨⟨v, v1, v2, v3⟩, hra⟩ := h
    obtain ⟨hl, us, u1, u2, u3⟩ := hra.cells
    refine ⟨fun y hy => ?_, v.cells.toList ++ us, by simp only [List.flatMap_cons]; exact v1.cells.append u1, ?_, fun j hj => ?_⟩
    · rcases List.mem_cons.1 hy with rfl | hy
      · rw [← v1.cells_size, v2]
      · exact hl y hy
    · simp only [List.length_append, Array.length_toList, v2, u2, List.length_cons]; rw [Nat.add_mul]; omega
    · by_cases hj' : j < es
      · rw [v3 j hj', List.getElem?_append_left (by simpa [v2] using hj')]; simp
      · rw [List.getElem?_append_right (by simp [v2]; omega)]
        simp only [Array.length_toList, v2]
        rw [← u3 (j - es) (by simp [v2] at hj; omega), show off + j = off + es + (j - es) by omega]

theorem cutAll_sound {agg : Bool} {es : Nat} {cs : List AV} {pre : List Value} (hr : Rl S G w cs pre) : ∀ (n start : Nat) {xs : List AV}, cutAll agg es cs start n = some xs →
    xs.length = n ∧ (0 < n → start + n * es ≤ cs.length) ∧ (∀ x ∈ xs, x.cells.length = es) ∧ Rl S G w (xs.flatMap AV.cells) ((pre.drop start).take (n * es))
  | 0, start, xs, h => by
    simp only [cutAll, Option.some.injEq] at h; subst h
    simp [Rl]
  | n + 1, start, xs, h => by
    simp only [cutAll] at h
    split at h
    · rename_i x r h1 h2
      simp only [Option.some.injEq] at h
      subst h
      obtain ⟨c, hc, hm⟩ := Option.bind_eq_some_iff.1 h1
      obtain ⟨k1, k2, k3⟩ := hr.cut hc
      obtain ⟨g1, g2, g3, g4⟩ := cutAll_sound hr n (start + es) h2
      have hxc : x.cells = c := mkv_cells hm
      refine ⟨by simp [g1], fun _ => ?_, ?_, ?_⟩
      · by_cases h0 : 0 < n
        · have := g2 h0; rw [Nat.add_mul]; omega
        · have : n = 0 := by omega
          subst this; omega
      · intro y hy
        rcases List.mem_cons.1 hy with rfl | hy
        · rw [hxc]; exact k2
        · exact g3 y hy
      · simp only [List.flatMap_cons, hxc]
        have hsplit : (pre.drop start).take ((n + 1) * es) = (pre.drop start).take es ++ (pre.drop (start + es)).take (n * es) := by
          rw [show (n + 1) * es = es + n * es by rw [Nat.add_mul]; omega, List.take_add, List.drop_drop]
        rw [hsplit]
        exact k3.append g4
    · cases h
end
end Go.Dn
