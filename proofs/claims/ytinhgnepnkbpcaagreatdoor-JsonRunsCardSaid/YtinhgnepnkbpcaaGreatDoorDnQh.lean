/- One operation, ninth part: made slices, bytes and strings, unsafe pointers, doors. -/
import Derived.Test.YtinhgnepnkbpcaaGreatDoorDnQg
import Derived.Lib.Bytealg
import Derived.Laws.MakeOwn
set_option linter.unusedSimpArgs false
set_option linter.unusedVariables false
namespace Go.Dn
open Go Go.RowKit

section
variable {P : Program} {gt : GT} {O : Orig} {S : St} {G : Gh} {w : World} {env env' : Env} {a : Act} {S' : St} {o : Oper}

theorem elemC_zero {e : TypeId} {i : TypeInfo} {z : AV} (hi : P.info? e = some i) (h : elemC P e = some z) : ∃ zv : Value, i.zero = some zv ∧ ∀ S G w, Rv S G w z zv := by
  unfold elemC at h
  rw [hi] at h
  simp only at h
  split at h
  · rename_i zv hz
    exact ⟨zv, hz, fun S G w => constC_sound h⟩
  · cases h

theorem so_mks (h : Good P gt O S G w env a) (hd : ∀ d, o.dst = some d → O.N.ok d) {t e : TypeId} {i : TypeInfo} {z : AV} {x y : Operand} {dx dy : DOpd} (hop : o.op = .makeSlice t x y) (hu : P.underlying t = some (.slice e)) (hi : P.info? e = some i) (hz : elemC P e = some z) (hx : opdP P 0 x = some dx) (hy : opdP P 0 y = some dy)
    (hs0 : 0 < i.size) (hs : stepO gt o.dst env S (.mks e i.size i.bytes z dx dy) = .done env' S') : OpOK P gt O o w a env' S' := by
  obtain ⟨fb, hf⟩ := h.fr
  obtain ⟨zv, z1, z2⟩ := elemC_zero hi hz
  simp only [stepO] at hs
  split at hs
  · rename_i l c hl hc
    cases hb : (Nat.ble l c && (Nat.ble (c * i.bytes) 17592186044416 && (Nat.ble c 17592186044416 && Nat.beq z.cells.length i.size))) with
    | false => rw [hb] at hs; cases hs
    | true =>
    rw [hb] at hs
    simp only [cond_true] at hs
    simp only [Bool.and_eq_true] at hb
    obtain ⟨b1, b2, b3, b4⟩ := hb
    have b1 := Nat.le_of_ble_eq_true b1
    have b2 := Nat.le_of_ble_eq_true b2
    have b3 := Nat.le_of_ble_eq_true b3
    have b4 := Nat.eq_of_beq_eq_true b4
    obtain ⟨v1, e1, e2⟩ := bind_nat hl
    obtain ⟨v2, e3, e4⟩ := bind_nat hc
    obtain ⟨k1, r1⟩ := nat?_sound e2 (opd_sound hx e1 hf)
    obtain ⟨k2, r2⟩ := nat?_sound e4 (opd_sound hy e3 hf)
    have hzs : zv.cells.toList.length = i.size := by rw [(z2 S G w).cells.length, b4]
    have hzs' : zv.cells.size = i.size := by simpa using hzs
    have hb2 : (i.bytes : Int) * (c : Int) ≤ 281474976710656 := by
      have : ((c * i.bytes : Nat) : Int) ≤ ((17592186044416 : Nat) : Int) := Int.ofNat_le.2 b2
      rw [Int.natCast_mul, Int.mul_comm] at this
      omega
    have hrun : (execOp a.eval o).run P w = .ok (.value (.slice (some ⟨w.heap.size, 0, none⟩) l c)) { w with heap := w.heap.push (.cells ⟨(List.replicate c zv.cells.toList).flatten⟩ e (0, 0)) } := by
      have hm := run_make (P := P) w t e i zv hu hi z1 k1 k2 l c (by omega) (by omega) hb2 (by omega)
      simp only [Int.toNat_natCast] at hm
      have hcells : madeCells zv.cells (c * i.size) = ⟨(List.replicate c zv.cells.toList).flatten⟩ := by
        apply Array.ext'
        rw [← mod_flat zv.cells.toList hzs c]
        simp [madeCells, hzs', Array.toList_range]
      rw [hcells] at hm
      simp only [execOp, hop, r1, r2, Sem.run_bind, hm, Result.andThen_ok, Sem.run_pure]
      rfl
    have hr0 := rep_Rl (z2 S G w).cells c
    have hrl : Rl S G w (List.replicate c z.cells).flatten (List.replicate c zv.cells.toList).flatten := by
      have : (List.replicate c z).flatMap AV.cells = (List.replicate c z.cells).flatten := by
        rw [List.flatMap_def, List.map_replicate]
      rw [← this]; exact hr0
    cases hc0 : Nat.beq c 0 with
    | true =>
      have hc0 := Nat.eq_of_beq_eq_true hc0
      subst hc0
      have hl0 : l = 0 := by omega
      subst hl0
      simp only [Nat.beq_refl, cond_true, SR.done.injEq] at hs
      obtain ⟨rfl, rfl⟩ := hs
      refine ⟨_, G, .inl ⟨_, hrun, (h.step (Tr.gr h.inv (Gr.push w _))).putV hd ?_⟩⟩
      simp only [Rv]
      exact ⟨_, _, _, rfl, ⟨rfl, Nat.le_refl _, by simp, fun c hc => (by simpa using hc), fun _ => rfl, fun p hp hc => absurd hc (Nat.lt_irrefl _)⟩, fun _ p hp => by simp only [Rat]⟩
    | false =>
      rw [hc0] at hs
      simp only [cond_false, SR.done.injEq] at hs
      obtain ⟨rfl, rfl⟩ := hs
      have t1 := Tr.newBox (c := ⟨(List.replicate c zv.cells.toList).flatten⟩) h.inv e hrl
      have t2 := Tr.newMoved (id := S.nb) t1.inv 0 (Nat.lt_succ_self _)
      refine ⟨_, _, .inl ⟨_, hrun, ((h.step t1).step t2).putV hd ?_⟩⟩
      simp only [Rv]
      have hrd : rd { S with nb := S.nb + 1, boxes := (S.nb, some (e, (List.replicate c z.cells).flatten)) :: S.boxes, nt := S.nt + 1, tip := (S.nt, none) :: S.tip, mv := (S.nt, .bx S.nb 0) :: S.mv } ⟨some (S.nt, S.nt), 0, some c, false⟩ = .box S.nb 0 := by
        unfold rd
        simp only [lk_same]
      refine ⟨_, _, _, rfl, ⟨by simp, b1, by simp, fun c hc => (by simpa using hc), fun hc => (by cases hc), fun p hp hc => ?_⟩, fun hr => ?_⟩
      · cases hp
        refine ⟨hs0, rfl, ⟨e, ((List.replicate c zv.cells.toList).flatten).length, ?_, ?_⟩, ?_⟩
        · simp only [World.shape?, Array.getElem?_push_size, List.size_toArray]
        · have : ((List.replicate c zv.cells.toList).flatten).length = c * i.size := by rw [← mod_flat _ hzs c]; simp
          rw [this]; simp
        · rw [hrd]
          simp only [upd_same]
          exact ⟨Nat.lt_succ_self _, trivial, by simp, fun t l hh => by simp only [Option.some.injEq, Prod.mk.injEq] at hh; obtain ⟨rfl, rfl⟩ := hh; exact ⟨Nat.lt_succ_self _, upd_same _ _ _⟩⟩
      · rw [hrd] at hr; cases hr
  · cases hs

theorem so_cvSB (h : Good P gt O S G w env a) (hd : ∀ d, o.dst = some d → O.N.ok d) {s t e : TypeId} {x : Operand} {dx : DOpd} (hop : o.op = .convert s t x) (hu : P.underlying s = some .string) (hv : P.underlying t = some (.slice e)) (he : P.underlying e = some (.int .u8)) (hsz : sizeP P e = some 1) (hx : opdP P s x = some dx)
    (hs : stepO gt o.dst env S (.cvSB e dx) = .done env' S') : OpOK P gt O o w a env' S' := by
  obtain ⟨fb, hf⟩ := h.fr
  simp only [stepO] at hs
  split at hs
  · rename_i str hxa
    cases hb : Nat.ble str.length 17592186044416 with
    | false => rw [hb] at hs; cases hs
    | true =>
    rw [hb] at hs
    simp only [cond_true, SR.done.injEq] at hs
    obtain ⟨rfl, rfl⟩ := hs
    have hb := Nat.le_of_ble_eq_true hb
    have rx := opd_sound hx hxa hf
    simp only [Rv] at rx
    have hrun : (execOp a.eval o).run P w = .ok (.value (.slice (some ⟨w.heap.size, 0, none⟩) (⟨⟨str⟩⟩ : ByteArray).size (grownCap w (⟨⟨str⟩⟩ : ByteArray).size 0 e))) (Lib.bytesWorld w e ⟨⟨str⟩⟩) := by
      simp only [execOp, hop, rx, Sem.run_bind, Lib.run_convert_string_bytes (P := P) w s t e ⟨⟨str⟩⟩ hu hv he, Result.andThen_ok, Sem.run_pure]
    have hsize : (⟨⟨str⟩⟩ : ByteArray).size = str.length := rfl
    have hcap : str.length ≤ grownCap w str.length 0 e := by simp only [grownCap, Question.cut]; omega
    have hg := Gr.drew w (w.drawn + 1)
    have h1 := h.step (Tr.gr h.inv hg)
    obtain ⟨us, hus⟩ : ∃ us : List Value, us = str.map fun b => Value.int .u8 (b.toNat : Int) := ⟨_, rfl⟩
    obtain ⟨rest, hrest⟩ : ∃ rest : List Value, rest = List.replicate (grownCap w str.length 0 e - str.length) (Value.int .u8 0) := ⟨_, rfl⟩
    have hul : us.length = str.length := by simp [hus]
    have hrl : rest.length = grownCap w str.length 0 e - str.length := by simp [hrest]
    obtain ⟨G', t1, t2⟩ := newTok_slice (w := { w with drawn := w.drawn + 1 }) (e := e) (es := 1) (xs := ofBytes str) (us := us) (rest := rest) (sf := true) (fr := ((us ++ rest).length, (us ++ rest).length + 1)) (capO := none) (cap := grownCap w str.length 0 e)
      h1.inv hsz (by decide) (by rw [ofBytes_cells, hus]; exact ofBytes_Rl str) (fun q hq => by simp only [ofBytes, List.mem_map] at hq; obtain ⟨b, _, rfl⟩ := hq; rfl) (by omega) (by simpa [ofBytes] using hcap) (by simp [ofBytes, hul]) (.inr ⟨rfl, rfl⟩) (fun c hc => by cases hc)
    have hw : Lib.bytesWorld w e ⟨⟨str⟩⟩ = ({ w with drawn := w.drawn + 1, heap := w.heap.push (.cells ⟨us ++ rest⟩ e ((us ++ rest).length, (us ++ rest).length + 1)) } : World) := by
      have hc : Lib.bytesCells w e ⟨⟨str⟩⟩ = ⟨us ++ rest⟩ := by
        simp [Lib.bytesCells, hsize, hus, hrest]
      unfold Lib.bytesWorld
      rw [hc]
      simp only [World.freeze, World.alloc, World.drew]
      rw [if_neg (by decide)]
      congr 1
      apply Array.ext_getElem?
      intro j
      rw [Array.getElem?_modify]
      by_cases hj : w.heap.size = j
      · subst hj; simp
      · rw [if_neg hj]; simp [Array.getElem?_push, Ne.symm hj]
    rw [hw, hsize] at hrun
    have hl : (ofBytes str).length = str.length := by simp [ofBytes]
    rw [hl] at t1 t2
    exact ⟨_, G', .inl ⟨_, hrun, (h1.step t1).putV hd t2⟩⟩
  · cases hs
/-- a row that is made and never written -/
theorem so_mksS (h : Good P gt O S G w env a) (hd : ∀ d, o.dst = some d → O.N.ok d) {t e : TypeId} {i : TypeInfo} {z : AV} {x y : Operand} {dx dy : DOpd} (hop : o.op = .makeSlice t x y) (hu : P.underlying t = some (.slice e)) (hi : P.info? e = some i) (hz : elemC P e = some z) (hx : opdP P 0 x = some dx) (hy : opdP P 0 y = some dy)
    (hs0 : 0 < i.size) (hs : stepO gt o.dst env S (.mksS i.size i.bytes z dx dy) = .done env' S') : OpOK P gt O o w a env' S' := by
  obtain ⟨fb, hf⟩ := h.fr
  obtain ⟨zv, z1, z2⟩ := elemC_zero hi hz
  simp only [stepO] at hs
  split at hs
  · rename_i l c hl hc
    cases hb : (Nat.ble l c && (Nat.ble (c * i.bytes) 17592186044416 && (Nat.ble c 17592186044416 && Nat.beq z.cells.length i.size))) with
    | false => rw [hb] at hs; cases hs
    | true =>
    rw [hb] at hs
    simp only [cond_true, SR.done.injEq] at hs
    obtain ⟨rfl, rfl⟩ := hs
    simp only [Bool.and_eq_true] at hb
    obtain ⟨b1, b2, b3, b4⟩ := hb
    have b1 := Nat.le_of_ble_eq_true b1
    have b2 := Nat.le_of_ble_eq_true b2
    have b3 := Nat.le_of_ble_eq_true b3
    have b4 := Nat.eq_of_beq_eq_true b4
    obtain ⟨v1, e1, e2⟩ := bind_nat hl
    obtain ⟨v2, e3, e4⟩ := bind_nat hc
    obtain ⟨k1, r1⟩ := nat?_sound e2 (opd_sound hx e1 hf)
    obtain ⟨k2, r2⟩ := nat?_sound e4 (opd_sound hy e3 hf)
    have hzs : zv.cells.toList.length = i.size := by rw [(z2 S G w).cells.length, b4]
    have hzs' : zv.cells.size = i.size := by simpa using hzs
    have hb2 : (i.bytes : Int) * (c : Int) ≤ 281474976710656 := by
      have : ((c * i.bytes : Nat) : Int) ≤ ((17592186044416 : Nat) : Int) := Int.ofNat_le.2 b2
      rw [Int.natCast_mul, Int.mul_comm] at this
      omega
    have hrun : (execOp a.eval o).run P w = .ok (.value (.slice (some ⟨w.heap.size, 0, none⟩) l c)) { w with heap := w.heap.push (.cells ⟨(List.replicate c zv.cells.toList).flatten⟩ e (0, 0)) } := by
      have hm := run_make (P := P) w t e i zv hu hi z1 k1 k2 l c (by omega) (by omega) hb2 (by omega)
      simp only [Int.toNat_natCast] at hm
      have hcells : madeCells zv.cells (c * i.size) = ⟨(List.replicate c zv.cells.toList).flatten⟩ := by
        apply Array.ext'
        rw [← mod_flat zv.cells.toList hzs c]
        simp [madeCells, hzs', Array.toList_range]
      rw [hcells] at hm
      simp only [execOp, hop, r1, r2, Sem.run_bind, hm, Result.andThen_ok, Sem.run_pure]
      rfl
    have htr := Tr.newSt h.inv ⟨(List.replicate c zv.cells.toList).flatten⟩ e
    refine ⟨_, _, .inl ⟨_, hrun, (h.step htr).putV hd ?_⟩⟩
    have hrl := (rep_Rl (z2 S G w).cells l).mono htr.ext
    simp only [Rv]
    have hlen : ∀ n, ((List.replicate n zv.cells.toList).flatten).length = n * i.size := fun n => by rw [← mod_flat _ hzs n]; simp
    have hpre : (List.replicate c zv.cells.toList).flatten = (List.replicate l zv.cells.toList).flatten ++ (List.replicate (c - l) zv.cells.toList).flatten := by
      rw [← List.flatten_append, List.replicate_append_replicate]; congr; omega
    refine ⟨some ⟨w.heap.size, 0, none⟩, l, c, rfl, ⟨by simp, b1, by simp, fun c hc => (by simpa using hc), fun hc => (by cases hc), fun p hp hc => ?_⟩, fun _ p hp => ?_⟩
    · cases hp
      refine ⟨hs0, rfl, ⟨e, ((List.replicate c zv.cells.toList).flatten).length, ?_, ?_⟩, ?_⟩
      · simp only [World.shape?, Array.getElem?_push_size, List.size_toArray]
      · rw [hlen c]; simp
      · rw [rd_none rfl]
        exact .inr rfl
    · cases hp
      refine Rat.ofCells hrl (fun x hx => by rw [(List.mem_replicate.1 hx).2, b4]) fun j hj => ?_
      simp only [World.cell?, Array.getElem?_push_size, Nat.zero_add, List.getElem?_toArray]
      rw [hpre, List.getElem?_append_left hj]; rfl
  · cases hs
end
end Go.Dn
