/- One operation, second part: addresses, loads, stores, parts. -/
import Derived.Test.YtinhgnepnkbpcaaGreatDoorDnQ
set_option linter.unusedSimpArgs false
set_option linter.unusedVariables false
namespace Go.Dn
open Go Go.RowKit

section
variable {P : Program} {gt : GT} {O : Orig} {S : St} {G : Gh} {w : World} {env env' : Env} {a : Act} {S' : St} {o : Oper}

theorem blt_lt {a b : Nat} (h : Nat.blt a b = true) : a < b := Nat.le_of_ble_eq_true h

theorem LocR.spot {fb : Nat → Nat} {p : Addr} {l : Loc} (h : LocR S G w fb p l) : p.spot = none := by
  cases l with
  | lc t off => simp only [LocR] at h; rw [h]
  | hp id off => simp only [LocR] at h; rw [h.2]
  | gl g off => simp only [LocR] at h; rw [h]
  | el es o xs i off => simp only [LocR, Rv] at h; obtain ⟨q, len, cap, _, _, _, he⟩ := h; cases he; rfl

theorem addr_eta {p : Addr} (h : p.spot = none) : p = ⟨p.block, p.off, none⟩ := by cases p; simp at h; subst h; rfl

theorem add_eta {p : Addr} (h : p.spot = none) (n : Nat) : p.add n = ⟨p.block, p.off + n, none⟩ := by rw [addr_eta h, add_none]

theorem addL_sound {fb : Nat → Nat} {p : Addr} {l : Loc} (n : Nat) (h : LocR S G w fb p l) : match addL n l with
    | .val x => Rv S G w x (.pointer (some ⟨p.block, p.off + n, none⟩))
    | .adr t off => (.pointer (some ⟨p.block, p.off + n, none⟩) : Value) = .pointer (some ⟨fb t, off, none⟩)
    | .box _ => False
    | .unk => True := by
  cases l with
  | lc t off => simp only [LocR] at h; subst h; simp only [addL]
  | hp id off => simp only [LocR] at h; obtain ⟨h1, rfl⟩ := h; simp only [addL, Rv]; exact ⟨h1, trivial⟩
  | gl g off => simp only [LocR] at h; subst h; simp only [addL, Rv]
  | el es o xs i off =>
    simp only [LocR, Rv] at h
    obtain ⟨q, len, cap, h1, h2, h3, he⟩ := h
    cases he
    simp only [addL, Rv]
    exact ⟨q, len, cap, h1, h2, h3, by simp; omega⟩

theorem ok_ent (h : Good P gt O S G w env a) (hd : ∀ d, o.dst = some d → O.N.ok d) {e : Ent} {v : Value} (hv : ∀ fb, FR O S G w env a fb → match e with
    | .val x => Rv S G w x v
    | .adr t off => v = .pointer (some ⟨fb t, off, none⟩)
    | .box _ => False
    | .unk => True) (hr : (execOp a.eval o).run P w = .ok (.value v) w) : OpOK P gt O o w a (putE o.dst e env) S := by
  refine ⟨w, G, .inl ⟨v, hr, ?_⟩⟩
  cases hdst : o.dst with
  | none => exact h
  | some d => exact h.putE (hd d hdst) hv

theorem so_load (h : Good P gt O S G w env a) (hd : ∀ d, o.dst = some d → O.N.ok d) {t : TypeId} {x : Operand} {g : Bool} {s : Nat} {dx : DOpd} (hop : o.op = .load t x) (hg : isAggP P t = some g) (hsz : sizeP P t = some s) (hx : opdP P 0 x = some dx) (hgs : g = true ∨ s = 1)
    (hs : stepO gt o.dst env S (.ld g s dx) = .done env' S') : OpOK P gt O o w a env' S' := by
  obtain ⟨fb, hf⟩ := h.fr
  simp only [stepO] at hs
  split at hs
  · rename_i l hl
    refine ok_val' h hd hs fun y hy => ?_
    obtain ⟨p, hp, hloc⟩ := loc_sound hx hl hf
    unfold ldL at hy
    split at hy
    · rename_i cs hc
      obtain ⟨vs, h1, h2, h3, h4⟩ := ldC_sound h.inv hf hc hloc
      obtain ⟨v, hr, hv⟩ := run_loadVar (w := w) vs hg (by rw [hsz, h1]) (by rw [h1]; exact hgs) h3
      refine ⟨v, ?_, ?_⟩
      · rcases h4.mkv hy with ⟨rfl, hk⟩ | ⟨rfl, u, rfl, hk⟩
        · rcases hv with ⟨_, rfl⟩ | ⟨e, _⟩
          · exact hk
          · cases e
        · rcases hv with ⟨e, _⟩ | ⟨_, e⟩
          · cases e
          · cases e; exact hk
      · rw [← addr_eta h2] at hr
        simp [execOp, hop, Instr.loadAt, Instr.sureAddr, hp, hr]
    · cases hy
  · cases hs

theorem so_store (h : Good P gt O S G w env a) (hd : ∀ d, o.dst = some d → O.N.ok d) {t tx : TypeId} {x y : Operand} {s : Nat} {dx dy : DOpd} (hop : o.op = .store t x y) (hsz : sizeP P t = some s) (hx : opdP P 0 x = some dx) (hy : opdP P tx y = some dy)
    (hs : stepO gt o.dst env S (.st s dx dy) = .done env' S') : OpOK P gt O o w a env' S' := by
  obtain ⟨fb, hf⟩ := h.fr
  simp only [stepO] at hs
  split at hs
  · rename_i l v hl hv
    cases hb : (Nat.beq v.cells.length s && v.cells.all ok1) with
    | false => rw [hb] at hs; cases hs
    | true =>
      rw [hb] at hs
      simp only [cond_true] at hs
      simp only [Bool.and_eq_true] at hb
      have b1 := Nat.eq_of_beq_eq_true hb.1
      split at hs
      · rename_i env1 S1 hst
        simp only [SR.done.injEq] at hs
        obtain ⟨rfl, rfl⟩ := hs
        obtain ⟨p, hp, hloc⟩ := loc_sound hx hl hf
        have hxv := opd_sound hy hv hf
        obtain ⟨w', G', hr, hg⟩ := stL_sound h hf hloc hxv.cells hb.2 hst
        refine ⟨w', G', .inr ⟨?_, hg.putV hd (by simp [Rv])⟩⟩
        simp only [execOp, hop, Instr.storeAt, Instr.sureAddr, hp, storeVar, Sem.run_bind, Sem.run_pure, Result.andThen_ok, run_sizeP hsz]
        rw [if_neg (by rw [hxv.cells_size, b1]; simp)]
        simp [hr]
      · cases hs
  · cases hs

theorem so_nilCheck (h : Good P gt O S G w env a) (hd : ∀ d, o.dst = some d → O.N.ok d) {x : Operand} {dx : DOpd} (hop : o.op = .nilCheck x) (hx : opdP P 0 x = some dx)
    (hs : stepO gt o.dst env S (.nilc dx) = .done env' S') : OpOK P gt O o w a env' S' := by
  simp only [stepO] at hs
  split at hs
  · rename_i l hl
    simp only [SR.done.injEq] at hs
    obtain ⟨rfl, rfl⟩ := hs
    obtain ⟨fb, hf⟩ := h.fr
    obtain ⟨p, hp, hloc⟩ := loc_sound hx hl hf
    refine ok_ent h hd (v := .pointer (some p)) (fun fb' hf' => ?_) (by simp [execOp, hop, hp])
    obtain ⟨p', hp', hloc'⟩ := loc_sound hx hl hf'
    rw [hp] at hp'
    cases hp'
    have := addL_sound 0 hloc'
    rw [Nat.add_zero, ← addr_eta hloc'.spot] at this
    exact this
  · obtain ⟨fb, hf⟩ := h.fr
    split at hs
    · rename_i f fs cs hv
      simp only [SR.done.injEq] at hs
      obtain ⟨rfl, rfl⟩ := hs
      have hr := opd_sound hx hv hf
      have hr' := hr
      simp only [Rv] at hr'
      obtain ⟨u1, u2, hu, _, _⟩ := hr'
      exact ok_val h hd hr (by simp [execOp, hop, hu])
    · rename_i t v hv
      simp only [SR.done.injEq] at hs
      obtain ⟨rfl, rfl⟩ := hs
      have hr := opd_sound hx hv hf
      have hr' := hr
      simp only [Rv] at hr'
      obtain ⟨u1, hu, _⟩ := hr'
      exact ok_val h hd hr (by simp [execOp, hop, hu])
    · cases hs

theorem so_fieldAddr (h : Good P gt O S G w env a) (hd : ∀ d, o.dst = some d → O.N.ok d) {t : TypeId} {x : Operand} {k : Nat} {fs : Array Field} {f : Field} {n : Nat} {dx : DOpd} (hop : o.op = .fieldAddr t x k) (hu : P.underlying t = some (.struct fs)) (hf : fs[k]? = some f) (hsz : sizeP P f.type = some (n + 1)) (hx : opdP P 0 x = some dx)
    (hs : stepO gt o.dst env S (.fa f.offset dx) = .done env' S') : OpOK P gt O o w a env' S' := by
  simp only [stepO] at hs
  split at hs
  · rename_i l hl
    simp only [SR.done.injEq] at hs
    obtain ⟨rfl, rfl⟩ := hs
    obtain ⟨fb, hfr⟩ := h.fr
    obtain ⟨p, hp, hloc⟩ := loc_sound hx hl hfr
    refine ok_ent h hd (v := .pointer (some (p.add f.offset))) (fun fb' hf' => ?_) ?_
    · obtain ⟨p', hp', hloc'⟩ := loc_sound hx hl hf'
      rw [hp] at hp'
      cases hp'
      rw [add_eta hloc'.spot]
      exact addL_sound f.offset hloc'
    · simp [execOp, hop, Instr.fieldAt, run_underlying hu, hf, Instr.sureAddr, hp, fieldPlace, run_sizeP hsz]
  · cases hs

theorem part_run {t : TypeId} {g : Bool} {s off : Nat} (hg : isAggP P t = some g) (hsz : sizeP P t = some s) {vs : List Value} {cs : List AV} {cells : List AV} (hr : Rl S G w cs vs) (hc : cut cs off s = some cells) {y : AV} (hy : mkv g cells = some y) :
    ∃ v, (part t ⟨vs⟩ off).run P w = .ok v w ∧ Rv S G w y v := by
  obtain ⟨h1, h2, h3⟩ := hr.cut hc
  unfold part
  simp only [Sem.run_bind, run_isAgg hg, Result.andThen_ok]
  rcases h3.mkv hy with ⟨rfl, hk⟩ | ⟨rfl, u, hu, hk⟩
  · refine ⟨.agg ⟨(vs.drop off).take s⟩, ?_, hk⟩
    have : (⟨vs⟩ : Array Value).extract off (off + s) = ⟨(vs.drop off).take s⟩ := by
      simp [List.extract_toArray, List.extract_eq_take_drop]
    simp only [if_true, Sem.run_bind, run_sizeP hsz, Result.andThen_ok, this, Sem.run_pure]
  · refine ⟨u, ?_, hk⟩
    have hs1 : s ≠ 0 := by
      intro e; subst e; simp at hu
    have : vs[off]? = some u := by
      have e := congrArg (·[0]?) hu
      simp only [List.getElem?_cons_zero] at e
      rw [List.getElem?_take_of_lt (by omega), List.getElem?_drop] at e
      simpa using e
    simp [this]

theorem so_field (h : Good P gt O S G w env a) (hd : ∀ d, o.dst = some d → O.N.ok d) {t : TypeId} {x : Operand} {k : Nat} {fs : Array Field} {f : Field} {g : Bool} {s : Nat} {dx : DOpd} {tx : TypeId} (hop : o.op = .field t x k) (hu : P.underlying t = some (.struct fs)) (hf : fs[k]? = some f) (hg : isAggP P f.type = some g) (hsz : sizeP P f.type = some s) (hx : opdP P tx x = some dx)
    (hs : stepO gt o.dst env S (.fd g f.offset s dx) = .done env' S') : OpOK P gt O o w a env' S' := by
  obtain ⟨fb, hfr⟩ := h.fr
  simp only [stepO] at hs
  split at hs
  · rename_i cs hv
    refine ok_val' h hd hs fun y hy => ?_
    have hr := opd_sound hx hv hfr
    simp only [Rv] at hr
    obtain ⟨vs, hv1, hv2⟩ := hr
    cases hc : cut cs f.offset s with
    | none => rw [hc] at hy; cases hy
    | some cells =>
      rw [hc] at hy
      obtain ⟨v, g1, g2⟩ := part_run hg hsz hv2 hc hy
      exact ⟨v, g2, by simp [execOp, hop, Instr.field, run_underlying hu, hf, hv1, asAgg, g1]⟩
  · cases hs

theorem nat?_sound {x : AV} {i : Nat} {v : Value} (h : nat? x = some i) (hv : Rv S G w x v) : ∃ k, v = .int k (i : Int) := by
  unfold nat? at h
  split at h
  · cases h; simp only [Rv] at hv; exact ⟨_, hv⟩
  · cases h

theorem bind_nat {d : DOpd} {i : Nat} (h : (opd env d).bind nat? = some i) : ∃ x, opd env d = some x ∧ nat? x = some i := by
  cases he : opd env d with
  | none => rw [he] at h; cases h
  | some x => rw [he] at h; exact ⟨x, rfl, h⟩

theorem so_indexAddrS (h : Good P gt O S G w env a) (hd : ∀ d, o.dst = some d → O.N.ok d) {t e : TypeId} {x i : Operand} {s : Nat} {dx di : DOpd} {tx ti : TypeId} (hop : o.op = .indexAddr t x i) (hu : P.underlying t = some (.slice e)) (hsz : sizeP P e = some s) (hx : opdP P tx x = some dx) (hi : opdP P ti i = some di)
    (hs : stepO gt o.dst env S (.ia s dx di) = .done env' S') : OpOK P gt O o w a env' S' := by
  obtain ⟨fb, hfr⟩ := h.fr
  simp only [stepO] at hs
  split at hs
  · rename_i es so xs k hv hk
    cases hb : (Nat.beq s es && Nat.blt k xs.length) with
    | false => rw [hb] at hs; cases hs
    | true =>
      rw [hb] at hs
      simp only [cond_true, SR.done.injEq] at hs
      obtain ⟨rfl, rfl⟩ := hs
      simp only [Bool.and_eq_true] at hb
      have b1 := Nat.eq_of_beq_eq_true hb.1
      subst b1
      have b2 : k < xs.length := blt_lt hb.2
      obtain ⟨ix, hix, hnx⟩ := bind_nat hk
      obtain ⟨kk, hiv⟩ := nat?_sound hnx (opd_sound hi hix hfr)
      have hr := opd_sound hx hv hfr
      simp only [Rv] at hr
      obtain ⟨ad, len, cap, hv1, hsl, hrat⟩ := hr
      have hcap : 0 < cap := by have := hsl.1; have := hsl.2.1; omega
      cases ad with
      | none => have := hsl.2.2.2.2.1 rfl; omega
      | some p =>
        have hsp := (hsl.2.2.2.2.2 p rfl hcap).2.1
        refine ok_val h hd (v := .pointer (some (p.add (k * s)))) ?_ ?_
        · simp only [Rv]
          refine ⟨p, len, cap, hsl, fun hrd => hrat hrd p rfl, b2, ?_⟩
          rw [add_eta hsp]; simp
        · simp [execOp, hop, Instr.indexAt, hiv, asIntOf, run_underlying hu, hv1, run_sizeP hsz]
          have := hsl.1
          intro hh; omega
  · cases hs

theorem so_indexAddrA (h : Good P gt O S G w env a) (hd : ∀ d, o.dst = some d → O.N.ok d) {t e : TypeId} {x i : Operand} {s n : Nat} {dx di : DOpd} {ti : TypeId} (hop : o.op = .indexAddr t x i) (hu : P.underlying t = some (.array n e)) (hsz : sizeP P e = some s) (hx : opdP P t x = some dx) (hi : opdP P ti i = some di)
    (hs : stepO gt o.dst env S (.iaA s n dx di) = .done env' S') : OpOK P gt O o w a env' S' := by
  simp only [stepO] at hs
  split at hs
  · rename_i l k hl hk
    cases hb : Nat.blt k n with
    | false => rw [hb] at hs; cases hs
    | true =>
      rw [hb] at hs
      simp only [cond_true, SR.done.injEq] at hs
      obtain ⟨rfl, rfl⟩ := hs
      have b2 : k < n := blt_lt hb
      obtain ⟨fb, hfr⟩ := h.fr
      obtain ⟨ix, hix, hnx⟩ := bind_nat hk
      obtain ⟨kk, hiv⟩ := nat?_sound hnx (opd_sound hi hix hfr)
      obtain ⟨p, hp, hloc⟩ := loc_sound hx hl hfr
      refine ok_ent h hd (v := .pointer (some (p.add (k * s)))) (fun fb' hf' => ?_) ?_
      · obtain ⟨p', hp', hloc'⟩ := loc_sound hx hl hf'
        rw [hp] at hp'
        cases hp'
        rw [add_eta hloc'.spot]
        exact addL_sound (k * s) hloc'
      · simp [execOp, hop, Instr.indexAt, hiv, asIntOf, run_underlying hu, hp, Instr.sureAddr, run_sizeP hsz]
        intro hh; omega
  · cases hs

theorem so_indexS (h : Good P gt O S G w env a) (hd : ∀ d, o.dst = some d → O.N.ok d) {t : TypeId} {x i : Operand} {dx di : DOpd} {tx ti : TypeId} (hop : o.op = .index t x i) (hu : P.underlying t = some .string) (hx : opdP P tx x = some dx) (hi : opdP P ti i = some di)
    (hs : stepO gt o.dst env S (.ixS dx di) = .done env' S') : OpOK P gt O o w a env' S' := by
  obtain ⟨fb, hfr⟩ := h.fr
  simp only [stepO] at hs
  split at hs
  · rename_i s k hv hk
    split at hs
    · rename_i b hb
      simp only [SR.done.injEq] at hs
      obtain ⟨rfl, rfl⟩ := hs
      obtain ⟨ix, hix, hnx⟩ := bind_nat hk
      obtain ⟨kk, hiv⟩ := nat?_sound hnx (opd_sound hi hix hfr)
      have hr := opd_sound hx hv hfr
      simp only [Rv] at hr
      have hg : (⟨⟨s⟩⟩ : ByteArray)[k]? = some b := by
        have hk : k < s.length := by
          rcases Nat.lt_or_ge k s.length with h' | h'
          · exact h'
          · rw [List.getElem?_eq_none h'] at hb; cases hb
        have hb' : s[k] = b := by rw [List.getElem?_eq_getElem hk] at hb; exact Option.some.inj hb
        rw [getElem?_pos (⟨⟨s⟩⟩ : ByteArray) k (by simpa [ByteArray.size] using hk)]
        congr 1
      refine ok_val h hd (v := .int .u8 b.toNat) (by simp [Rv]) ?_
      simp [execOp, hop, Instr.index, hiv, asIntOf, run_underlying hu, hr, hg]
    · cases hs
  · cases hs

theorem so_indexA (h : Good P gt O S G w env a) (hd : ∀ d, o.dst = some d → O.N.ok d) {t e : TypeId} {x i : Operand} {g : Bool} {s n : Nat} {dx di : DOpd} {tx ti : TypeId} (hop : o.op = .index t x i) (hu : P.underlying t = some (.array n e)) (hg : isAggP P e = some g) (hsz : sizeP P e = some s) (hx : opdP P tx x = some dx) (hi : opdP P ti i = some di)
    (hs : stepO gt o.dst env S (.ixA g s n dx di) = .done env' S') : OpOK P gt O o w a env' S' := by
  obtain ⟨fb, hfr⟩ := h.fr
  simp only [stepO] at hs
  split at hs
  · rename_i cs k hv hk
    cases hb : Nat.blt k n with
    | false => rw [hb] at hs; cases hs
    | true =>
      rw [hb] at hs
      simp only [cond_true] at hs
      have b2 : k < n := blt_lt hb
      obtain ⟨ix, hix, hnx⟩ := bind_nat hk
      obtain ⟨kk, hiv⟩ := nat?_sound hnx (opd_sound hi hix hfr)
      have hr := opd_sound hx hv hfr
      simp only [Rv] at hr
      obtain ⟨vs, hv1, hv2⟩ := hr
      refine ok_val' h hd hs fun y hy => ?_
      cases hc : cut cs (k * s) s with
      | none => rw [hc] at hy; cases hy
      | some cells =>
        rw [hc] at hy
        obtain ⟨v, g1, g2⟩ := part_run hg hsz hv2 hc hy
        refine ⟨v, g2, ?_⟩
        simp only [execOp, hop, Instr.index, hiv, asIntOf, Sem.run_bind, Sem.run_pure, Result.andThen_ok, run_underlying hu, hv1]
        rw [if_pos ⟨by omega, by omega⟩]
        simp [run_sizeP hsz, g1]
  · cases hs
end
end Go.Dn
