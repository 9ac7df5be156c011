/- One operation, tenth part: strings from bytes, unsafe pointers, doors. -/
import Derived.Test.YtinhgnepnkbpcaaGreatDoorDnQh
set_option linter.unusedSimpArgs false
set_option linter.unusedVariables false
namespace Go.Dn
open Go Go.RowKit

section
variable {P : Program} {gt : GT} {O : Orig} {S : St} {G : Gh} {w : World} {env env' : Env} {a : Act} {S' : St} {o : Oper}

theorem bytes?_eq : ∀ {ys : List AV} {s : List UInt8}, bytes? ys = some s → ∃ ns : List Int, ys = ns.map (AV.int .u8) ∧ s = ns.map fun n => UInt8.ofNat n.toNat
  | [], s, h => by simp only [bytes?, Option.some.injEq] at h; exact ⟨[], rfl, h.symm⟩
  | y :: ys, s, h => by
    unfold bytes? at h
    split at h
    · rename_i heq; cases heq
    · rename_i n r heq
      cases heq
      cases hr : bytes? ys with
      | none => rw [hr] at h; cases h
      | some s' =>
        rw [hr] at h
        simp only [Option.map_some, Option.some.injEq] at h
        obtain ⟨ns, h1, h2⟩ := bytes?_eq hr
        exact ⟨n :: ns, by rw [h1]; rfl, by rw [← h, h2]; rfl⟩
    · cases h

theorem ints_Rl : ∀ {ns : List Int} {us : List Value}, Rl S G w (ns.map (AV.int .u8)) us → us = ns.map (Value.int .u8)
  | [], us, h => by simpa [Rl] using h
  | n :: ns, us, h => by
    simp only [List.map_cons, Rl] at h
    obtain ⟨v, r, rfl, h1, h2⟩ := h
    simp only [Rv] at h1
    rw [h1, ints_Rl h2]; rfl

theorem flat_ints (ns : List Int) : (ns.map (AV.int .u8)).flatMap AV.cells = ns.map (AV.int .u8) := by
  induction ns with
  | nil => rfl
  | cons n ns ih => simp only [List.map_cons, List.flatMap_cons, AV.cells, ih]; rfl

theorem foldl_push (ns : List Int) : ∀ (s : ByteArray), ns.foldl (fun r n => r.push (UInt8.ofNat n.toNat)) s = ⟨s.data ++ (ns.map fun n => UInt8.ofNat n.toNat).toArray⟩ := by
  induction ns with
  | nil => intro s; simp
  | cons n ns ih =>
    intro s
    simp only [List.foldl_cons, ih]
    apply ByteArray.ext
    simp [ByteArray.push]

theorem so_cvBS (h : Good P gt O S G w env a) (hd : ∀ d, o.dst = some d → O.N.ok d) {s t e : TypeId} {x : Operand} {dx : DOpd} (hop : o.op = .convert s t x) (hu : P.underlying s = some (.slice e)) (hv : P.underlying t = some .string) (he : P.underlying e = some (.int .u8)) (hx : opdP P s x = some dx)
    (hs : stepO gt o.dst env S (.cvBS dx) = .done env' S') : OpOK P gt O o w a env' S' := by
  obtain ⟨fb, hf⟩ := h.fr
  simp only [stepO] at hs
  split at hs
  · rename_i so xs hxa
    have rx := opd_sound hx hxa hf
    simp only [Rv] at rx
    obtain ⟨ad, len, cap, r1, hsl, hrat⟩ := rx
    refine ok_val' h hd hs fun y hy => ?_
    cases hel : elems S false 1 so xs with
    | none => rw [hel] at hy; cases hy
    | some ys =>
      rw [hel] at hy
      simp only [Option.bind_some] at hy
      cases hb : bytes? ys with
      | none => rw [hb] at hy; cases hy
      | some str =>
        rw [hb] at hy
        simp only [Option.map_some, Option.some.injEq] at hy
        subst hy
        obtain ⟨k1, k2, us, k3, k4, k5⟩ := elems_sound h.inv hel hsl hrat
        obtain ⟨ns, n1, n2⟩ := bytes?_eq hb
        rw [n1, flat_ints] at k3
        have hus := ints_Rl k3
        refine ⟨.string ⟨⟨str⟩⟩, by simp only [Rv], ?_⟩
        have hconv := run_convert_bytes_string (P := P) w s t e ad len cap hu he hv
        have hbs : (Conv.bytesToString (.slice ad len cap)).run P w = .ok (.string ⟨⟨str⟩⟩) w := by
          cases ad with
          | none =>
            have hl0 : len = 0 := by have := hsl.2.2.2.2.1 rfl; have := hsl.2.1; omega
            have : ns = [] := by
              have : us.length = 0 := by rw [k4, hl0]
              rw [hus] at this
              simpa using this
            subst this
            subst n2
            simp only [Conv.bytesToString, Sem.run_pure]
            rfl
          | some p =>
            have hload : (loadCells p len).run P w = .ok (ns.map (Value.int .u8)).toArray w := by
              have hlen : len = us.length := by rw [k4]; omega
              by_cases hc : 0 < cap
              · obtain ⟨g1, g2⟩ := k5 p rfl hc
                obtain ⟨pb, po, ps⟩ := p
                simp only at g1 g2
                subst g1
                rw [hlen, run_ldC us (fun j hj => g2 j hj), hus]
              · have hl0 : len = 0 := by have := hsl.2.1; omega
                have : us = [] := List.length_eq_zero_iff.1 (by omega)
                rw [hl0, ← hus, this]
                rfl
            rw [run_bytesToString (P := P) w p len cap ns hload, foldl_push, n2]
            congr 2
            apply ByteArray.ext
            simp
        simp only [execOp, hop, r1, Sem.run_bind, hconv, hbs, Result.andThen_ok, Sem.run_pure]
  · cases hs

theorem boxShape (hI : Inv P gt S G w) {id : Nat} {ty : TypeId} {cs : List AV} (h : lk S.boxes id = some (some (ty, cs))) : ∃ n, w.shape? (G.β id) = some (ty, n) ∧ cs.length ≤ n := by
  obtain ⟨_, pre, rest, fr, sf, h2, h3, h4⟩ := hI.boxCells h
  exact ⟨(pre ++ rest).length, by simp [World.shape?, h2], by have := h4.length; simp; omega⟩

theorem run_seenAt {b off : Nat} {x : TypeId × Nat} (h : w.shape? b = some x) : (Conv.seenAt ⟨b, off, none⟩).run P w = .ok ⟨b, off, none⟩ w := by
  simp [Conv.seenAt, viewAt, h]

theorem so_cvU (h : Good P gt O S G w env a) (hd : ∀ d, o.dst = some d → O.N.ok d) {s t e : TypeId} {n : Nat} {x : Operand} {dx : DOpd} (hop : o.op = .convert s t x) (hu : P.underlying s = some (.pointer e)) (hv : P.underlying t = some .unsafePointer) (hsz : sizeP P e = some (n + 1)) (hx : opdP P s x = some dx)
    (hs : stepO gt o.dst env S (.cvU dx) = .done env' S') : OpOK P gt O o w a env' S' := by
  obtain ⟨fb, hf⟩ := h.fr
  simp only [stepO] at hs
  split at hs
  · rename_i hxa
    simp only [SR.done.injEq] at hs
    obtain ⟨rfl, rfl⟩ := hs
    have rx := opd_sound hx hxa hf
    simp only [Rv] at rx
    exact ok_val h hd (v := .pointer none) (by simp only [Rv]) (by simp [execOp, hop, rx, convert, run_underlying hu, run_underlying hv, Conv.unsafePointer])
  · rename_i id off hxa
    have rx := opd_sound hx hxa hf
    have rx0 := rx
    simp only [Rv] at rx
    split at hs
    · rename_i ty cs hk
      cases hb : Nat.blt off cs.length with
      | false => rw [hb] at hs; cases hs
      | true =>
      rw [hb] at hs
      simp only [cond_true, SR.done.injEq] at hs
      obtain ⟨rfl, rfl⟩ := hs
      have hb := blt_lt hb
      obtain ⟨m, h1, h2⟩ := boxShape h.inv hk
      have hseen := run_seenAt (P := P) (off := off) h1
      have hm : ¬ m ≤ off := by omega
      refine ok_val h hd rx0 ?_
      simp [execOp, hop, rx.2, convert, run_underlying hu, run_underlying hv, Conv.unsafePointer, hseen, cellsIn, h1, run_sizeP hsz, hm]
    · cases hs
  · cases hs

theorem rowAt_mono {fits : TypeId → Bool} {c c' off n : Nat} (hc : c ≤ c') : ∀ (d : Nat) (e : TypeId), rowAt P fits d e c off n = true → rowAt P fits d e c' off n = true
  | 0, _, h => by simp [rowAt] at h
  | d + 1, e, h => by
    simp only [rowAt] at h ⊢
    split at h
    · cases h
    · rename_i h0
      rw [if_neg h0]
      simp only [Bool.or_eq_true, Bool.and_eq_true, decide_eq_true_eq] at h ⊢
      rcases h with ⟨⟨h1, h2⟩, h3⟩ | ⟨h1, h2⟩
      · exact .inl ⟨⟨h1, by omega⟩, h3⟩
      · exact .inr ⟨by omega, h2⟩

theorem liesAt_mono {c c' : Nat} (hc : c ≤ c') : ∀ (d : Nat) {e u : TypeId} {off n : Nat}, liesAt P d e c off u n = true → liesAt P d e c' off u n = true
  | 0, _, _, _, _, h => by simp [liesAt] at h
  | d + 1, e, u, off, n, h => by
    simp only [liesAt, Bool.or_eq_true] at h ⊢
    rcases h with h | h
    · exact .inl (rowAt_mono hc _ _ h)
    · right
      split at h
      · rename_i m u' hu
        exact liesAt_mono hc d h
      · cases h

theorem so_cvP (h : Good P gt O S G w env a) (hd : ∀ d, o.dst = some d → O.N.ok d) {s t u : TypeId} {n : Nat} {x : Operand} {dx : DOpd} (hop : o.op = .convert s t x) (hu : P.underlying s = some .unsafePointer) (hv : P.underlying t = some (.pointer u)) (hsz : sizeP P u = some (n + 1)) (hx : opdP P s x = some dx)
    (hs : stepO gt o.dst env S (.cvP (okP P u) dx) = .done env' S') : OpOK P gt O o w a env' S' := by
  obtain ⟨fb, hf⟩ := h.fr
  simp only [stepO] at hs
  split at hs
  · rename_i hxa
    simp only [SR.done.injEq] at hs
    obtain ⟨rfl, rfl⟩ := hs
    have rx := opd_sound hx hxa hf
    simp only [Rv] at rx
    exact ok_val h hd (v := .pointer none) (by simp only [Rv]) (by simp [execOp, hop, rx, convert, run_underlying hu, run_underlying hv, Conv.unsafePointer])
  · rename_i id off hxa
    have rx := opd_sound hx hxa hf
    have rx0 := rx
    simp only [Rv] at rx
    split at hs
    · rename_i ty cs hk
      cases hb : ((okP P u).any fun p => Nat.beq p.1 ty && (Nat.beq p.2.1 off && Nat.ble p.2.2 cs.length)) with
      | false => rw [hb] at hs; cases hs
      | true =>
      rw [hb] at hs
      simp only [cond_true, SR.done.injEq] at hs
      obtain ⟨rfl, rfl⟩ := hs
      simp only [Bool.and_eq_true, List.any_eq_true] at hb
      obtain ⟨⟨ty', off', sz⟩, b1, b2, b0, b3⟩ := hb
      have b0 := Nat.eq_of_beq_eq_true b0
      have b2 := Nat.eq_of_beq_eq_true b2
      have b3 := Nat.le_of_ble_eq_true b3
      simp only at b2 b3
      subst b0; subst b2
      obtain ⟨m, h1, h2⟩ := boxShape h.inv hk
      have hlies : sizeP P ty' = some sz ∧ off' < sz ∧ liesAt P P.depth ty' 1 off' u 1 = true := by
        simp only [okP, List.mem_flatMap] at b1
        obtain ⟨q, _, hq⟩ := b1
        split at hq
        · rename_i s' hs'
          split at hq
          · simp only [List.mem_filterMap, List.mem_range] at hq
            obtain ⟨x, hx, hq⟩ := hq
            split at hq
            · rename_i hc
              simp only [Option.some.injEq, Prod.mk.injEq] at hq
              obtain ⟨rfl, rfl, rfl⟩ := hq
              exact ⟨hs', by omega, hc⟩
            · cases hq
          · cases hq
        · cases hq
      obtain ⟨l1, l2, l3⟩ := hlies
      have hcells : P.cellsOf ty' = sz := by
        unfold sizeP at l1
        unfold Program.cellsOf
        rw [l1]; rfl
      have hle : 1 ≤ m / P.cellsOf ty' := by
        rw [hcells, Nat.le_div_iff_mul_le (by omega)]; omega
      have hl := liesAt_mono hle P.depth l3
      have hseen := run_seenAt (P := P) (off := off') h1
      have hva : (variablesAt ⟨G.β id, off', none⟩ u 1).run P w = .ok true w := by
        simp [variablesAt, h1, hl]
      refine ok_val h hd rx0 ?_
      simp [execOp, hop, rx.2, convert, run_underlying hu, run_underlying hv, Conv.unsafePointer, hseen, run_sizeP hsz, hva]
    · cases hs
  · cases hs

theorem so_usd (h : Good P gt O S G w env a) (hd : ∀ d, o.dst = some d → O.N.ok d) {c : Call} {t : TypeId} {x : Operand} {dx : DOpd} (hop : o.op = .call c) (hc : c.callee = .builtin .unsafeSliceData) (ht : c.argTypes = #[t]) (ha : c.args = #[x])
    (hx : opdP P t x = some dx)
    (hs : stepO gt o.dst env S (.usd dx) = .done env' S') : OpOK P gt O o w a env' S' := by
  obtain ⟨fb, hf⟩ := h.fr
  have hrunB : ∀ {v : Value} {w' : World}, (Builtin.unsafeSliceData_ #[t] o.type #[a.eval x]).run P w = .ok v w' → (execOp a.eval o).run P w = .ok (.value v) w' := fun hq =>
    run_builtin hop hc (fun cs => rfl) (by rw [ht, ha]; simpa using hq)
  simp only [stepO] at hs
  split at hs
  · rename_i so y xs hxa
    simp only [SR.done.injEq] at hs
    obtain ⟨rfl, rfl⟩ := hs
    have rx := opd_sound hx hxa hf
    simp only [Rv] at rx
    obtain ⟨ad, len, cap, r1, hsl, hrat⟩ := rx
    have h1 := hsl.1
    have h2 := hsl.2.1
    simp only [List.length_cons] at h1
    have hcap : 0 < cap := by omega
    cases ad with
    | none => have := hsl.2.2.2.2.1 rfl; omega
    | some p =>
      obtain ⟨g1, g2, _⟩ := hsl.2.2.2.2.2 p rfl hcap
      refine ok_val h hd (v := .pointer (some p)) ?_ (hrunB ?_)
      · simp only [Rv]
        refine ⟨p, len, cap, hsl, fun hr => hrat hr p rfl, by simp, ?_⟩
        obtain ⟨pb, po, ps⟩ := p
        simp only at g2
        subst g2
        simp
      · rw [r1]; exact Lib.run_unsafeSliceData_row w _ _ p len cap (by omega)
  · rename_i es so hxa
    have rx := opd_sound hx hxa hf
    simp only [Rv] at rx
    obtain ⟨ad, len, cap, r1, hsl, hrat⟩ := rx
    cases hn : so.isNil with
    | true =>
      rw [hn] at hs
      simp only [cond_true, SR.done.injEq] at hs
      obtain ⟨rfl, rfl⟩ := hs
      have := hsl.2.2.1.2 hn
      subst this
      exact ok_val h hd (v := .pointer none) (by simp only [Rv]; exact ⟨none, rfl⟩) (hrunB (by rw [r1]; exact Lib.run_unsafeSliceData_nil w _ _ len cap))
    | false =>
      rw [hn] at hs
      simp only [cond_false] at hs
      split at hs
      · rename_i k hk
        simp only [SR.done.injEq] at hs
        obtain ⟨rfl, rfl⟩ := hs
        have hce := hsl.2.2.2.1 _ hk
        cases ad with
        | none => have := hsl.2.2.2.2.1 rfl; omega
        | some p => exact ok_val h hd (v := .pointer (some p)) (by simp only [Rv]; exact ⟨some p, rfl⟩) (hrunB (by rw [r1]; exact Lib.run_unsafeSliceData_row w _ _ p len cap (by omega)))
      · cases hs
  · cases hs

theorem freeze_blk {b : Nat} {c : Array Value} {ty : TypeId} {fr : Nat × Nat} (h : w.heap[b]? = some (.cells c ty fr)) (n : Nat) : ∃ fr', w.freeze ⟨b, 0, none⟩ n = wBlk w b (.cells c ty fr') := by
  have hlt := lt_of_some h
  unfold World.freeze
  by_cases hn : n = 0
  · rw [if_pos hn]
    refine ⟨fr, ?_⟩
    unfold wBlk
    have : w.heap.setIfInBounds b (.cells c ty fr) = w.heap := by
      apply Array.ext_getElem?
      intro j
      by_cases e : j = b
      · subst e; rw [h]; simp [hlt]
      · rw [Array.getElem?_setIfInBounds_ne (Ne.symm e)]
    rw [this]
  · rw [if_neg hn]
    obtain ⟨lo, hi⟩ := fr
    refine ⟨if lo == hi then (0, 0 + n) else (min lo 0, max hi (0 + n)), ?_⟩
    unfold wBlk
    congr 1
    apply Array.ext_getElem?
    intro j
    rw [Array.getElem?_modify]
    by_cases e : j = b
    · subst e
      rw [if_pos rfl, h, Array.getElem?_setIfInBounds_self_of_lt hlt]
      rfl
    · rw [if_neg (Ne.symm e), Array.getElem?_setIfInBounds_ne (Ne.symm e)]

theorem run_loadInts : ∀ (ns : List Int) (b off : Nat) (acc : ByteArray), (∀ j x, ns[j]? = some x → w.cell? ⟨b, off + j, none⟩ = some (.int .u8 x)) →
    (loadBytes ⟨b, off, none⟩ acc ns.length).run P w = .ok ⟨acc.data ++ (ns.map fun n => UInt8.ofNat n.toNat).toArray⟩ w
  | [], b, off, acc, _ => by simp [loadBytes]
  | x :: ns, b, off, acc, h => by
    have h0 : w.cell? ⟨b, off, none⟩ = some (.int .u8 x) := by
      have := h 0 x rfl
      simpa using this
    have ih := run_loadInts ns b (off + 1) (acc.push (UInt8.ofNat x.toNat)) (fun j y hy => by
      have := h (j + 1) y (by simpa using hy)
      rw [show off + 1 + j = off + (j + 1) by omega]; exact this)
    simp only [List.length_cons, loadBytes, Sem.run_bind, run_load, h0, Result.andThen, add_none]
    have : x.toNat.toUInt8 = UInt8.ofNat x.toNat := rfl
    rw [this, ih]
    congr 1
    apply ByteArray.ext
    simp [ByteArray.push]

/-- the bytes of a row as a string -/
theorem run_ustr {pt it ty e : TypeId} {b n : Nat} {c : Array Value} {fr : Nat × Nat} (hp : P.underlying pt = some (.pointer e)) (hsz : sizeP P e = some 1) (h : w.heap[b]? = some (.cells c e fr)) {ns : List Int} (hl : ns.length = n) (hn : 0 < n) (hle : n ≤ c.size) (hmax : n ≤ 17592186044416)
    (hc : ∀ j x, ns[j]? = some x → w.cell? ⟨b, j, none⟩ = some (.int .u8 x)) :
    ∃ fr', (Builtin.unsafeString_ #[pt, it] ty #[.pointer (some ⟨b, 0, none⟩), .int .i64 n]).run P w = .ok (.string ⟨⟨ns.map fun n => UInt8.ofNat n.toNat⟩⟩) (wBlk w b (.cells c e fr')) := by
  obtain ⟨fr', hfr⟩ := freeze_blk h n
  refine ⟨fr', ?_⟩
  have hcells : P.cellsOf e = 1 := by
    unfold sizeP at hsz
    unfold Program.cellsOf
    rw [hsz]; rfl
  have hsh : w.shape? b = some (e, c.size) := by simp [World.shape?, h]
  have hlb := run_loadInts (P := P) (w := w) ns b 0 .empty (fun j x hj => by rw [Nat.zero_add]; exact hc j x hj)
  rw [hl] at hlb
  have hlies := Lib.liesAt_bytes (P := P) hcells (c.size / P.cellsOf e) n (by rw [hcells]; simpa using hle)
  have hdef : Builtin.unsafeString_ #[pt, it] ty #[.pointer (some ⟨b, 0, none⟩), .int .i64 n] =
      (do
        let n ← asInt (.int .i64 n)
        if n < 0 then runtimePanic (.error "unsafe.String: len out of range")
        if n > IntKind.i64.max then unsupported (.unsafePointer "String: a length above the largest int")
        if n = 0 then pure (.string .empty)
        else if ← variablesAt ⟨b, 0, none⟩ (← elemOf pt) n.toNat then do
          let s ← loadBytes ⟨b, 0, none⟩ .empty n.toNat
          freeze ⟨b, 0, none⟩ n.toNat
          pure (.string s)
        else unsupported (.unsafePointer "String: not so many bytes at ptr")) := rfl
  rw [hdef]
  have hmax' : IntKind.i64.max = 9223372036854775807 := rfl
  have h63 : ¬ (9223372036854775807 : Int) < (n : Int) := by omega
  have hneg : ¬ (n : Int) < 0 := by omega
  have hn0 : ¬ n = 0 := by omega
  simp [asInt, asIntOf, hmax', h63, hneg, hn0, variablesAt, hsh, elemOf, run_underlying hp, hlies, hlb, hfr]

theorem so_ustr (h : Good P gt O S G w env a) (hd : ∀ d, o.dst = some d → O.N.ok d) {c : Call} {t u e : TypeId} {x y : Operand} {dx dy : DOpd} (hop : o.op = .call c) (hc : c.callee = .builtin .unsafeString) (ht : c.argTypes = #[t, u]) (ha : c.args = #[x, y])
    (hu : P.underlying t = some (.pointer e)) (hsz : sizeP P e = some 1) (hx : opdP P t x = some dx) (hy : opdP P u y = some dy)
    (hs : stepO gt o.dst env S (.ustr e dx dy) = .done env' S') : OpOK P gt O o w a env' S' := by
  obtain ⟨fb, hf⟩ := h.fr
  have hrunB : ∀ {v : Value} {w' : World}, (Builtin.unsafeString_ #[t, u] o.type #[a.eval x, a.eval y]).run P w = .ok v w' → (execOp a.eval o).run P w = .ok (.value v) w' := fun hq =>
    run_builtin hop hc (fun cs => rfl) (by rw [ht, ha]; simpa using hq)
  simp only [stepO] at hs
  split at hs
  · rename_i hxa hya
    simp only [SR.done.injEq] at hs
    obtain ⟨rfl, rfl⟩ := hs
    have rx := opd_sound hx hxa hf
    have ry := opd_sound hy hya hf
    simp only [Rv] at rx ry
    obtain ⟨p, rx⟩ := rx
    refine ok_val h hd (v := .string .empty) (by simp only [Rv]; rfl) (hrunB ?_)
    rw [rx, ry]
    exact Lib.run_unsafeString_none (P := P) w t u o.type p
  · rename_i so xs n hxa hya
    have rx := opd_sound hx hxa hf
    have ry := opd_sound hy hya hf
    simp only [Rv] at rx ry
    obtain ⟨p, len, cap, hsl, hrat, hi, hv⟩ := rx
    have hl := hsl.1
    subst hl
    have hcap : 0 < cap := by have := hsl.2.1; omega
    obtain ⟨g1, g2, ⟨tyb, kb, g3, g4⟩, g5⟩ := hsl.2.2.2.2.2 p rfl hcap
    obtain ⟨pb, po, ps⟩ := p
    simp only at g2 g3 g4 hv
    subst g2
    simp only [Nat.zero_mul, Nat.add_zero] at hv
    cases hrd : rd S so with
    | no => rw [hrd] at hs; simp at hs
    | here =>
      rw [hrd] at hs g5
      cases ho : so.tok with
      | none => rw [ho] at hs; simp at hs
      | some tl =>
        obtain ⟨tk, ln⟩ := tl
        rw [ho] at hs
        simp only [ho] at g5
        simp only at hs
        obtain ⟨e1, e2, e3, e4, e5⟩ := g5
        split at hs
        · rename_i m ty' hk
          cases hb : (Nat.beq e ty' && (Nat.beq so.off 0 && (Nat.beq n xs.length && Nat.ble n 17592186044416))) with
          | false => rw [hb] at hs; cases hs
          | true =>
          rw [hb] at hs
          simp only [cond_true] at hs
          simp only [Bool.and_eq_true] at hb
          obtain ⟨b1, b2, b3, b4⟩ := hb
          have b1 := Nat.eq_of_beq_eq_true b1
          have b2 := Nat.eq_of_beq_eq_true b2
          have b3 := Nat.eq_of_beq_eq_true b3
          have b4 := Nat.le_of_ble_eq_true b4
          subst b1; subst b3
          split at hs
          · rename_i str hby
            simp only [SR.done.injEq] at hs
            obtain ⟨rfl, rfl⟩ := hs
            obtain ⟨ns, n1, n2⟩ := bytes?_eq hby
            have hvl : Vld S G tk := by
              unfold rd at hrd
              simp only [ho] at hrd
              cases hm : lk S.mv tk with
              | some m => rw [hm] at hrd; cases m; simp at hrd
              | none =>
                rw [hm] at hrd
                simp only at hrd
                cases hdd : lk S.dl ln with
                | some u => rw [hdd] at hrd; cases hrd
                | none => exact ⟨hm, by rw [e2]; exact hdd⟩
            obtain ⟨ht1, ht2⟩ := h.inv.tip tk _ _ _ hk
            obtain ⟨es0, cc, fr, k1, k2, k3, k4, k5⟩ := ht2 hvl
            have hpo : po = 0 := by rw [e4, b2]
            subst hpo
            obtain ⟨_, us, u1, u2, u3⟩ := (hrat hrd).cells
            rw [n1, flat_ints] at u1
            have hus := ints_Rl u1
            have hkb : kb = cc.size := by
              rw [← e3] at g3
              simp only [World.shape?, k2, Option.some.injEq, Prod.mk.injEq] at g3
              exact g3.2.symm
            have hnl : ns.length = xs.length := by
              have := congrArg List.length n1
              simpa using this.symm
            have hlen := hsl.2.1
            subst e3
            obtain ⟨fr', hrun⟩ := run_ustr (P := P) (pt := t) (it := u) (ty := o.type) hu hsz k2 hnl (by omega) (by omega) b4 (fun j q hj => by
              have := u3 j (by
                rw [hus, List.length_map]
                exact (List.getElem?_eq_some_iff.1 hj).1)
              simp only [Nat.zero_add] at this
              rw [this, hus, List.getElem?_map, hj]; rfl)
            have t1 := Tr.tipGone h.inv tk ht1
            have t2 := Tr.mark (fr' := fr') t1.inv (b := G.τ tk) (.inr (.inl ⟨tk, ht1, rfl⟩)) k2 (fun id q hq => (h.inv.boxTok id q tk hq ht1 hvl).symm) (fun i q hq hvi => by
              by_cases e' : tk = i
              · subst e'; rw [lk_same] at hq; cases hq
              · rw [lk_ne _ _ e'] at hq
                exact h.inv.tipInj i tk _ _ hq hk (Ne.symm e') hvi hvl)
            refine ⟨_, G, .inl ⟨_, hrunB (v := .string ⟨⟨str⟩⟩) ?_, ((h.step t1).step t2).putV hd (by simp only [Rv])⟩⟩
            rw [hv, ry, n2]
            exact hrun
          · cases hs
        · cases hs
    | box b boff =>
      rw [hrd] at hs g5
      simp only at hs
      split at hs
      · rename_i ty' cs hk
        cases hb : (Nat.beq e ty' && (Nat.beq (boff + so.off) 0 && (Nat.blt 0 n && (Nat.ble n cs.length && Nat.ble n 17592186044416)))) with
        | false => rw [hb] at hs; cases hs
        | true =>
        rw [hb] at hs
        simp only [cond_true] at hs
        simp only [Bool.and_eq_true] at hb
        obtain ⟨b1, b2, b3, b4, b5⟩ := hb
        have b1 := Nat.eq_of_beq_eq_true b1
        have b2 := Nat.eq_of_beq_eq_true b2
        have b3 := blt_lt b3
        have b4 := Nat.le_of_ble_eq_true b4
        have b5 := Nat.le_of_ble_eq_true b5
        subst b1
        split at hs
        · rename_i str hby
          simp only [SR.done.injEq] at hs
          obtain ⟨rfl, rfl⟩ := hs
          obtain ⟨ns, n1, n2⟩ := bytes?_eq hby
          obtain ⟨e1, e2, e3, _⟩ := g5
          simp only at e2 e3
          have hpo : po = 0 := by omega
          subst hpo
          obtain ⟨hid, pre, rest, fr, sf, h2, h3, h4⟩ := h.inv.boxCells hk
          have htake := h4.take n
          rw [n1] at htake
          have hus := ints_Rl htake
          have hpl := h4.length
          have hnl : ns.length = n := by
            have := congrArg List.length n1
            simp at this
            omega
          obtain ⟨fr', hrun⟩ := run_ustr (P := P) (pt := t) (it := u) (ty := o.type) hu hsz h2 hnl b3 (by simp; omega) b5 (fun j q hj => by
            have hjl := (List.getElem?_eq_some_iff.1 hj).1
            rw [cell_pre h2 (by omega)]
            have : (pre.take n)[j]? = some (.int .u8 q) := by rw [hus, List.getElem?_map, hj]; rfl
            rw [List.getElem?_take_of_lt (by omega)] at this
            exact this)
          have t1 := Tr.boxGone h.inv b hid
          have t2 := Tr.mark (fr' := fr') t1.inv (b := G.β b) (.inl ⟨b, hid, rfl⟩) h2 (fun id q hq => by
            by_cases e' : b = id
            · subst e'; rw [lk_same] at hq; cases hq
            · rw [lk_ne _ _ e'] at hq
              exact h.inv.boxInj id b _ _ hq hk (Ne.symm e')) (fun i q hq hvi => h.inv.boxTok b _ i hk (h.inv.tip i _ _ _ hq).1 hvi)
          refine ⟨_, G, .inl ⟨_, hrunB (v := .string ⟨⟨str⟩⟩) ?_, ((h.step t1).step t2).putV hd (by simp only [Rv])⟩⟩
          rw [hv, ry, n2, e2]
          exact hrun
        · cases hs
      · cases hs
  · cases hs
end
end Go.Dn
