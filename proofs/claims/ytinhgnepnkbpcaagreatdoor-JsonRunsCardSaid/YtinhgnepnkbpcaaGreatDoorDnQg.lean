/- One operation, eighth part: new rows, bytes and strings. -/
import Derived.Test.YtinhgnepnkbpcaaGreatDoorDnQf
import Derived.Lib.ConvBytes
import Derived.Lib.UnsafeStr
import Derived.Laws.BytesString
set_option linter.unusedSimpArgs false
set_option linter.unusedVariables false
namespace Go.Dn
open Go Go.RowKit

section
variable {P : Program} {gt : GT} {O : Orig} {S : St} {G : Gh} {w : World} {env env' : Env} {a : Act} {S' : St} {o : Oper}

/-- a slice of a new row -/
theorem newTok_slice (hI : Inv P gt S G w) {e : TypeId} {es cap : Nat} {xs : List AV} {us rest : List Value} {sf : Bool} {fr : Nat × Nat} {capO : Option Nat}
    (hsz : sizeP P e = some es) (he : 0 < es) (hr : Rl S G w (xs.flatMap AV.cells) us) (hall : ∀ q ∈ xs, q.cells.length = es) (hrest : us.length + rest.length = cap * es) (hle : xs.length ≤ cap)
    (hul : us.length = xs.length * es) (hf : okFr fr (us ++ rest).length sf) (hcap : ∀ c, capO = some c → cap = c) :
    ∃ G', Tr P gt S G w { S with nt := S.nt + 1, tip := (S.nt, some (xs.length, e, sf)) :: S.tip } G' { w with heap := w.heap.push (.cells ⟨us ++ rest⟩ e fr) } ∧
      Rv { S with nt := S.nt + 1, tip := (S.nt, some (xs.length, e, sf)) :: S.tip } G' { w with heap := w.heap.push (.cells ⟨us ++ rest⟩ e fr) } (.sl es ⟨some (S.nt, S.nt), 0, capO, false⟩ xs) (.slice (some ⟨w.heap.size, 0, none⟩) xs.length cap) := by
  have htr := Tr.newTok (sf := sf) (n := xs.length) (c := ⟨us ++ rest⟩) (fr := fr) (l := S.nt) (tip' := S.tip) hI hsz (by simp; omega) (by simpa using hf) (Nat.lt_succ_self _) (fun _ _ h => h) (fun t ht => hI.kTip t (by omega))
  refine ⟨_, htr, ?_⟩
  have hrl := hr.mono htr.ext
  simp only [Rv]
  have hnb : ∀ j, j < us.length → ({ w with heap := w.heap.push (.cells ⟨us ++ rest⟩ e fr) } : World).cell? ⟨w.heap.size, 0 + j, none⟩ = us[j]? := fun j hj => by
    simp only [World.cell?, Array.getElem?_push_size, Nat.zero_add]
    simp [List.getElem?_append_left hj]
  refine ⟨some ⟨w.heap.size, 0, none⟩, _, _, rfl, ⟨rfl, hle, by simp, hcap, fun hc => (by cases hc), fun p hp hc => ?_⟩, fun _ p hp => ?_⟩
  · cases hp
    refine ⟨he, rfl, ⟨e, (⟨us ++ rest⟩ : Array Value).size, ?_, ?_⟩, ?_⟩
    · simp only [World.shape?, Array.getElem?_push_size]
    · simp only [List.size_toArray, List.length_append, Nat.zero_add]; omega
    · have hrd : rd { S with nt := S.nt + 1, tip := (S.nt, some (xs.length, e, sf)) :: S.tip } ⟨some (S.nt, S.nt), 0, capO, false⟩ = .here := by
        unfold rd
        simp only [hI.kMv S.nt (Nat.le_refl _), hI.kDl S.nt (Nat.le_refl _)]
      rw [hrd]
      simp only [upd_same]
      exact ⟨Nat.lt_succ_self _, trivial, trivial, by simp, by simp⟩
  · cases hp
    exact Rat.ofCells hrl hall hnb

theorem mod_flat (zs : List Value) {es : Nat} (hz : zs.length = es) : ∀ n, (List.range (n * es)).map (fun j => (⟨zs⟩ : Array Value)[j % es]!) = (List.replicate n zs).flatten
  | 0 => by simp
  | n + 1 => by
    rw [Nat.add_mul, Nat.one_mul, List.range_add, List.map_append, mod_flat zs hz n, List.replicate_succ', List.flatten_append]
    congr 1
    simp only [List.map_map, List.flatten_cons, List.flatten_nil, List.append_nil]
    apply List.ext_getElem?
    intro j
    by_cases hj : j < es
    · have hm : (n * es + j) % es = j := by rw [Nat.mul_comm, Nat.mul_add_mod, Nat.mod_eq_of_lt hj]
      simp [List.getElem?_range hj, hm, getElem!_pos, hz, hj]
    · rw [List.getElem?_eq_none (by simp; omega), List.getElem?_eq_none (by omega)]

theorem rep_Rl {z : AV} {zs : List Value} (h : Rl S G w z.cells zs) : ∀ n, Rl S G w ((List.replicate n z).flatMap AV.cells) (List.replicate n zs).flatten
  | 0 => by simpa using Rl.nil
  | n + 1 => by
    simp only [List.replicate_succ, List.flatMap_cons, List.flatten_cons]
    exact h.append (rep_Rl h n)

theorem flat_len {es : Nat} : ∀ {xs : List AV}, (∀ x ∈ xs, x.cells.length = es) → (xs.flatMap AV.cells).length = xs.length * es
  | [], _ => by simp
  | x :: xs, h => by
    simp only [List.flatMap_cons, List.length_append, List.length_cons]
    rw [flat_len (fun y hy => h y (by simp [hy])), h x (by simp), Nat.add_mul]
    omega

theorem flat_set {es : Nat} {v : AV} (hv : v.cells.length = es) : ∀ {xs : List AV} {i : Nat}, (∀ x ∈ xs, x.cells.length = es) → i < xs.length → (xs.set i v).flatMap AV.cells = splice (xs.flatMap AV.cells) (i * es) v.cells
  | [], i, _, h => by simp at h
  | x :: xs, 0, h, _ => by
    have hx := h x (by simp)
    simp only [List.set_cons_zero, List.flatMap_cons, splice, Nat.zero_mul, List.take_zero, List.nil_append, Nat.zero_add, hv]
    rw [List.drop_append_of_le_length (by omega), List.drop_eq_nil_of_le (by omega), List.nil_append]
  | x :: xs, i + 1, h, hi => by
    have hx := h x (by simp)
    have ih := flat_set hv (xs := xs) (i := i) (fun y hy => h y (by simp [hy])) (by simpa using hi)
    simp only [List.set_cons_succ, List.flatMap_cons, ih, splice]
    rw [show (i + 1) * es = x.cells.length + i * es by rw [hx, Nat.add_mul]; omega, List.take_length_add_append, Nat.add_assoc, List.drop_length_add_append]
    simp [List.append_assoc]

theorem fillE_fillC {es : Nat} : ∀ {ps : List (Nat × DOpd)} {xs ys : List AV}, (∀ x ∈ xs, x.cells.length = es) → fillE es xs env ps = some ys →
    ys.length = xs.length ∧ (∀ x ∈ ys, x.cells.length = es) ∧ fillC (xs.flatMap AV.cells) env (ps.map fun p => (p.1 * es, es, p.2)) = some (ys.flatMap AV.cells)
  | [], xs, ys, hx, h => by
    simp only [fillE, Option.some.injEq] at h; subst h
    exact ⟨rfl, hx, rfl⟩
  | (i, d) :: ps, xs, ys, hx, h => by
    simp only [fillE] at h
    cases hv : opd env d with
    | none => rw [hv] at h; cases h
    | some v =>
      rw [hv] at h
      simp only at h
      cases hb : (Nat.beq v.cells.length es && Nat.blt i xs.length) with
      | false => rw [hb] at h; cases h
      | true =>
        rw [hb] at h
        simp only [cond_true] at h
        simp only [Bool.and_eq_true] at hb
        have b1 := Nat.eq_of_beq_eq_true hb.1
        have b2 := blt_lt hb.2
        have hset : ∀ x ∈ xs.set i v, x.cells.length = es := fun x hxm => by
          rcases List.mem_or_eq_of_mem_set hxm with h1 | h1
          · exact hx x h1
          · rw [h1]; exact b1
        obtain ⟨g1, g2, g3⟩ := fillE_fillC hset h
        refine ⟨by rw [g1, List.length_set], g2, ?_⟩
        have hle : i * es + es ≤ (xs.flatMap AV.cells).length := by
          rw [flat_len hx]
          have : (i + 1) * es ≤ xs.length * es := Nat.mul_le_mul_right _ b2
          rw [Nat.add_mul] at this; omega
        have hb2 : (Nat.beq v.cells.length es && Nat.ble (i * es + es) (xs.flatMap AV.cells).length) = true := by
          rw [hb.1, Nat.ble_eq_true_of_le hle]; rfl
        simp only [List.map_cons, fillC, hv, hb2, cond_true, ← flat_set b1 hx b2]
        exact g3

theorem partsS_A {e : TypeId} {s : Nat} : ∀ {l : List (Nat × Operand)} {ps : List (Nat × DOpd)}, partsS P e l = some ps → partsA P e s l = some (ps.map fun p => (p.1 * s, s, p.2))
  | [], ps, h => by simp only [partsS, Option.some.injEq] at h; subst h; rfl
  | (i, x) :: l, ps, h => by
    simp only [partsS] at h
    split at h
    · rename_i d r h1 h2
      simp only [Option.some.injEq] at h
      subst h
      simp only [partsA, h1, partsS_A h2, List.map_cons]
    · cases h

theorem so_bldSl (h : Good P gt O S G w env a) (hd : ∀ d, o.dst = some d → O.N.ok d) {t e : TypeId} {n s : Nat} {z : AV} {l : Array (Nat × Operand)} {ps : List (Nat × DOpd)} {tk : Bool} (hop : o.op = .buildSlice t n l) (hu : P.underlying t = some (.slice e)) (hsz : sizeP P e = some s) (hz : elemC P e = some z) (hp : partsS P e l.toList = some ps)
    (hs0 : 0 < s) (hns : n * s ≤ 16777216) (hzl : z.cells.length = s)
    (hs : stepO gt o.dst env S (if tk then .bldT e s n z ps else .bldS s n z ps) = .done env' S') : OpOK P gt O o w a env' S' := by
  obtain ⟨fb, hf⟩ := h.fr
  obtain ⟨zv, z1, z2⟩ := elemC_sound hz
  have hzs : zv.cells.toList.length = s := by rw [(z2 S G w).cells.length, hzl]
  have hrep : ∀ x ∈ List.replicate n z, x.cells.length = s := fun x hx => by rw [(List.mem_replicate.1 hx).2, hzl]
  -- the row
  have main : ∀ {ys : List AV}, fillE s (List.replicate n z) env ps = some ys → ys.length = n ∧ (∀ x ∈ ys, x.cells.length = s) ∧ ∃ us : List Value, Rl S G w (ys.flatMap AV.cells) us ∧ us.length = n * s ∧
      (execOp a.eval o).run P w = .ok (.value (.slice (some ⟨w.heap.size, 0, none⟩) n n)) { w with heap := w.heap.push (.cells ⟨us⟩ e (0, 0)) } := by
    intro ys hy
    obtain ⟨g1, g2, g3⟩ := fillE_fillC hrep hy
    have hinit : ((Array.range (n * s)).map (fun j => zv.cells[j % zv.cells.size]!)).toList = (List.replicate n zv.cells.toList).flatten := by
      rw [Array.toList_map, Array.toList_range, ← mod_flat zv.cells.toList hzs n]
      have : zv.cells.size = s := by simpa using hzs
      rw [this]
    have hr0 : Rl S G w ((List.replicate n z).flatMap AV.cells) ((Array.range (n * s)).map (fun j => zv.cells[j % zv.cells.size]!)).toList := by
      rw [hinit]; exact rep_Rl (z2 S G w).cells n
    obtain ⟨vs', f1, f2⟩ := fill_sound hf (partsA_R (s := s) (partsS_A hp)) hr0 g3
    have hl : ys.length = n := by rw [g1, List.length_replicate]
    refine ⟨hl, g2, vs'.toList, f2, by rw [f2.length, flat_len g2, hl], ?_⟩
    have hmap : (l.map fun (i, x) => (i, a.eval x)).toList = l.toList.map fun p => (p.1, a.eval p.2) := by simp
    have hif : ∀ (A B : Sem Value), (¬ n * s = 0 → Sem.run P B w = .ok (.slice (some ⟨w.heap.size, 0, none⟩) n n) { w with heap := w.heap.push (.cells ⟨vs'.toList⟩ e (0, 0)) }) → (n * s = 0 → Sem.run P A w = .ok (.slice (some ⟨w.heap.size, 0, none⟩) n n) { w with heap := w.heap.push (.cells ⟨vs'.toList⟩ e (0, 0)) }) →
        Sem.run P (if n * s = 0 then A else B) w = .ok (.slice (some ⟨w.heap.size, 0, none⟩) n n) { w with heap := w.heap.push (.cells ⟨vs'.toList⟩ e (0, 0)) } := fun A B hb ha => by
      by_cases h0 : n * s = 0
      · rw [if_pos h0]; exact ha h0
      · rw [if_neg h0]; exact hb h0
    simp only [execOp, hop, Instr.buildSlice, Sem.run_bind, run_underlying hu, Result.andThen_ok, run_sizeP hsz]
    rw [if_neg (by simp; omega)]
    simp only [Sem.run_pure, Result.andThen_ok, Sem.run_bind]
    rw [hif]
    · rfl
    · intro h0
      simp only [Sem.run_bind, z1, Result.andThen_ok, Sem.run_pure, hmap, f1]
      simp [newRow, newObj, Sem.run]
    · intro h0
      simp only [h0, show Array.range 0 = #[] from rfl, List.map_toArray, List.map_nil] at f1
      simp only [Sem.run_bind, Sem.run_pure, Result.andThen_ok, hmap, h0, show Array.range 0 = #[] from rfl, List.map_toArray, List.map_nil, f1]
      simp [newRow, newObj, Sem.run]
  cases tk with
  | true =>
    simp only [if_true, stepO] at hs
    split at hs
    · rename_i ys hy
      simp only [SR.done.injEq] at hs
      obtain ⟨rfl, rfl⟩ := hs
      obtain ⟨k1, k2, us, k3, k4, k5⟩ := main hy
      obtain ⟨G', t1, t2⟩ := newTok_slice (rest := []) (cap := n) (sf := false) (fr := (0, 0)) (capO := some n) h.inv hsz hs0 k3 k2 (by simp [k4]) (by omega) (by rw [k4, k1]) (.inl rfl) (fun c hc => by cases hc; rfl)
      rw [k1, List.append_nil] at t1 t2
      exact ⟨_, G', .inl ⟨_, k5, (h.step t1).putV hd t2⟩⟩
    · cases hs
  | false =>
    simp only [Bool.false_eq_true, if_false, stepO] at hs
    cases hy : fillE s (List.replicate n z) env ps with
    | none => rw [hy] at hs; cases hs
    | some ys =>
      rw [hy] at hs
      simp only [Option.map_some, SR.val, SR.done.injEq] at hs
      obtain ⟨rfl, rfl⟩ := hs
      obtain ⟨k1, k2, us, k3, k4, k5⟩ := main hy
      have htr := Tr.newSt h.inv ⟨us⟩ e
      refine ⟨_, _, .inl ⟨_, k5, (h.step htr).putV hd ?_⟩⟩
      have hrl := k3.mono htr.ext
      simp only [Rv]
      have hnb : ∀ j, j < us.length → ({ w with heap := w.heap.push (.cells ⟨us⟩ e (0, 0)) } : World).cell? ⟨w.heap.size, 0 + j, none⟩ = us[j]? := fun j hj => by
        simp only [World.cell?, Array.getElem?_push_size, Nat.zero_add]
        simp
      refine ⟨some ⟨w.heap.size, 0, none⟩, n, n, rfl, ⟨k1.symm, Nat.le_refl _, by simp, fun c hc => (by simpa using hc), fun hc => (by cases hc), fun p hp hc => ?_⟩, fun _ p hp => ?_⟩
      · cases hp
        refine ⟨hs0, rfl, ⟨e, us.length, ?_, ?_⟩, ?_⟩
        · simp only [World.shape?, Array.getElem?_push_size, List.size_toArray]
        · simp [k4]
        · rw [rd_none rfl]
          exact .inr rfl
      · cases hp
        exact Rat.ofCells hrl k2 hnb
end
end Go.Dn
