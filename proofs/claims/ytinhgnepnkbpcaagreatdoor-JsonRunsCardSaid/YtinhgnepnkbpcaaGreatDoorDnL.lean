/- Rows of cells: read and written. -/
import Derived.Test.YtinhgnepnkbpcaaGreatDoorDnU
import Derived.Laws.Cells
set_option linter.unusedSimpArgs false
set_option linter.unusedVariables false
namespace Go.Dn
open Go Go.RowKit

theorem add_none (b off n : Nat) : (⟨b, off, none⟩ : Addr).add n = ⟨b, off + n, none⟩ := by
  unfold Addr.add; split <;> simp_all

section rl
variable {S : St} {G : Gh} {w : World}

theorem Rl.length : ∀ {xs : List AV} {vs : List Value}, Rl S G w xs vs → vs.length = xs.length
  | [], _, h => by simp only [Rl] at h; subst h; rfl
  | x :: xs, _, h => by
    simp only [Rl] at h
    obtain ⟨v, r, rfl, _, h2⟩ := h
    simp [h2.length]

theorem Rl.get : ∀ {xs : List AV} {vs : List Value}, Rl S G w xs vs → ∀ {i : Nat} {x : AV}, xs[i]? = some x → ∃ v, vs[i]? = some v ∧ Rv S G w x v
  | [], _, _, i, x, hx => by simp at hx
  | y :: xs, _, h, i, x, hx => by
    simp only [Rl] at h
    obtain ⟨v, r, rfl, h1, h2⟩ := h
    cases i with
    | zero => simp at hx; subst hx; exact ⟨v, by simp, h1⟩
    | succ i => simp at hx; obtain ⟨u, hu, hr⟩ := h2.get hx; exact ⟨u, by simpa using hu, hr⟩

theorem Rl.take : ∀ {xs : List AV} {vs : List Value} (n : Nat), Rl S G w xs vs → Rl S G w (xs.take n) (vs.take n)
  | [], _, n, h => by simp only [Rl] at h; subst h; simp [Rl]
  | x :: xs, _, n, h => by
    simp only [Rl] at h
    obtain ⟨v, r, rfl, h1, h2⟩ := h
    cases n with
    | zero => simp [Rl]
    | succ n => simp only [List.take_succ_cons, Rl]; exact ⟨v, _, rfl, h1, h2.take n⟩

theorem Rl.drop : ∀ {xs : List AV} {vs : List Value} (n : Nat), Rl S G w xs vs → Rl S G w (xs.drop n) (vs.drop n)
  | [], _, n, h => by simp only [Rl] at h; subst h; simp [Rl]
  | x :: xs, _, n, h => by
    simp only [Rl] at h
    obtain ⟨v, r, rfl, h1, h2⟩ := h
    cases n with
    | zero => simp only [List.drop_zero, Rl]; exact ⟨v, r, rfl, h1, h2⟩
    | succ n => simp only [List.drop_succ_cons]; exact h2.drop n

theorem Rl.append : ∀ {xs : List AV} {vs : List Value} {ys : List AV} {us : List Value}, Rl S G w xs vs → Rl S G w ys us → Rl S G w (xs ++ ys) (vs ++ us)
  | [], _, _, _, h, k => by simp only [Rl] at h; subst h; simpa using k
  | x :: xs, _, _, _, h, k => by
    simp only [Rl] at h
    obtain ⟨v, r, rfl, h1, h2⟩ := h
    simp only [List.cons_append, Rl]
    exact ⟨v, _, rfl, h1, h2.append k⟩

theorem Rl.cut {xs : List AV} {vs : List Value} (h : Rl S G w xs vs) {off sz : Nat} {cs : List AV} (hc : cut xs off sz = some cs) :
    off + sz ≤ xs.length ∧ cs.length = sz ∧ Rl S G w cs ((vs.drop off).take sz) := by
  unfold Dn.cut at hc
  cases hb : Nat.ble (off + sz) xs.length with
  | false => rw [hb] at hc; cases hc
  | true =>
    rw [hb] at hc
    simp only [cond_true, Option.some.injEq] at hc
    subst hc
    have := Nat.le_of_ble_eq_true hb
    exact ⟨this, by simp; omega, (h.drop off).take sz⟩

theorem Rl.nil : Rl S G w [] [] := by simp [Rl]
theorem Rl.single {x : AV} {v : Value} (h : Rv S G w x v) : Rl S G w [x] [v] := by simp only [Rl]; exact ⟨v, [], rfl, h, rfl⟩
theorem Rl.cons {x : AV} {v : Value} {xs : List AV} {vs : List Value} (h : Rv S G w x v) (k : Rl S G w xs vs) : Rl S G w (x :: xs) (v :: vs) := by simp only [Rl]; exact ⟨v, vs, rfl, h, k⟩

theorem Rv.not_agg {x : AV} {v : Value} (h : Rv S G w x v) (hx : ∀ cs, x ≠ .agg cs) : ∀ cs, v ≠ .agg cs := by
  intro cs e
  subst e
  cases x <;> simp only [Rv] at h
  case undef => simp [undef] at h
  case bool => cases h
  case int => cases h
  case str => cases h
  case nilp => cases h
  case ptr => cases h.2
  case gptr => cases h
  case anyp => obtain ⟨p, h⟩ := h; cases h
  case eptr => obtain ⟨p, len, cap, _, _, _, h⟩ := h; cases h
  case sl => obtain ⟨p, len, cap, h, _⟩ := h; cases h
  case fn => obtain ⟨p, b, h, _⟩ := h; cases h
  case nilfn => cases h
  case ifc => obtain ⟨p, h, _⟩ := h; cases h
  case nilif => cases h
  case agg cs' => exact hx cs' rfl
  case tup => obtain ⟨p, h, _⟩ := h; cases h
  case nilmap => cases h
  case map => cases h.2
  case raw => obtain ⟨h, h'⟩ := h; subst h; simp [oneCell] at h'

theorem Value.cells_of_not_agg {v : Value} (h : ∀ cs, v ≠ .agg cs) : v.cells = #[v] := by
  cases v <;> first | rfl | exact absurd rfl (h _)

theorem Rv.cells {x : AV} {v : Value} (h : Rv S G w x v) : Rl S G w x.cells v.cells.toList := by
  by_cases hx : ∃ cs, x = .agg cs
  · obtain ⟨cs, rfl⟩ := hx
    simp only [Rv] at h
    obtain ⟨vs, rfl, h⟩ := h
    exact h
  · have hx' : ∀ cs, x ≠ .agg cs := fun cs e => hx ⟨cs, e⟩
    have hc : x.cells = [x] := by cases x <;> first | rfl | exact absurd rfl (hx' _)
    rw [hc, Value.cells_of_not_agg (h.not_agg hx')]
    exact Rl.single h

theorem Rv.cells_size {x : AV} {v : Value} (h : Rv S G w x v) : v.cells.size = x.cells.length := by
  have := h.cells.length
  simpa using this

theorem Rl.mkv {cs : List AV} {vs : List Value} {agg : Bool} {x : AV} (h : Rl S G w cs vs) (hm : mkv agg cs = some x) :
    (agg = true ∧ Rv S G w x (.agg ⟨vs⟩)) ∨ (agg = false ∧ ∃ v, vs = [v] ∧ Rv S G w x v) := by
  unfold Dn.mkv at hm
  cases agg with
  | true => simp only [cond_true, Option.some.injEq] at hm; subst hm; refine .inl ⟨rfl, ?_⟩; simp only [Rv]; exact ⟨vs, rfl, h⟩
  | false =>
    simp only [cond_false] at hm
    cases cs with
    | nil => simp at hm
    | cons c r =>
      cases r with
      | cons c' r' => simp at hm
      | nil =>
        cases hn : notAgg c with
        | false => simp [hn] at hm
        | true =>
        simp only [hn, cond_true, Option.some.injEq] at hm
        subst hm
        simp only [Rl] at h
        obtain ⟨v, r, rfl, h1, rfl⟩ := h
        exact .inr ⟨rfl, v, rfl, h1⟩

theorem mkv_cells {agg : Bool} {cs : List AV} {x : AV} (h : mkv agg cs = some x) : x.cells = cs := by
  unfold Dn.mkv at h
  cases agg with
  | true => simp only [cond_true, Option.some.injEq] at h; subst h; rfl
  | false =>
    simp only [cond_false] at h
    split at h
    · rename_i c
      cases hn : notAgg c with
      | false => rw [hn] at h; cases h
      | true =>
        rw [hn] at h
        simp only [cond_true, Option.some.injEq] at h
        subst h
        cases c <;> first | rfl | (simp [notAgg] at hn)
    · cases h

theorem Rv.one {x : AV} {v : Value} (h : Rv S G w x v) (hx : ok1 x = true) : v.oneCell' = true := by
  cases x <;> simp only [Rv] at h <;> simp only [ok1, Bool.false_eq_true] at hx
  case bool => subst h; rfl
  case int => subst h; rfl
  case str => subst h; rfl
  case nilp => subst h; rfl
  case ptr => rw [h.2]; rfl
  case gptr => subst h; rfl
  case anyp => obtain ⟨p, rfl⟩ := h; rfl
  case eptr => obtain ⟨p, len, cap, _, _, _, rfl⟩ := h; rfl
  case sl => obtain ⟨p, len, cap, rfl, _⟩ := h; rfl
  case fn => obtain ⟨p, b, rfl, _⟩ := h; rfl
  case nilfn => subst h; rfl
  case ifc => obtain ⟨p, rfl, _⟩ := h; rfl
  case nilif => subst h; rfl
  case nilmap => subst h; rfl
  case map => rw [h.2]; rfl
  case raw => obtain ⟨rfl, h'⟩ := h; cases v <;> simp [oneCell] at h' <;> rfl

theorem Rl.one : ∀ {xs : List AV} {vs : List Value}, Rl S G w xs vs → xs.all ok1 = true → ∀ v ∈ vs, v.oneCell' = true
  | [], _, h, _ => by simp only [Rl] at h; subst h; simp
  | x :: xs, _, h, hx => by
    simp only [Rl] at h
    obtain ⟨v, r, rfl, h1, h2⟩ := h
    simp only [List.all_cons, Bool.and_eq_true] at hx
    intro u hu
    rcases List.mem_cons.1 hu with rfl | hu
    · exact h1.one hx.1
    · exact h2.one hx.2 u hu
end rl

/-! ### running -/
section run
variable {P : Program} {w : World}

theorem run_ldC {b off : Nat} (vs : List Value) (h : ∀ j, j < vs.length → w.cell? ⟨b, off + j, none⟩ = vs[j]?) :
    (loadCells ⟨b, off, none⟩ vs.length).run P w = .ok ⟨vs⟩ w := by
  refine run_loadCells_list w ⟨b, off, none⟩ vs fun j v hj => ?_
  have hlt : j < vs.length := by
    rcases Nat.lt_or_ge j vs.length with h' | h'
    · exact h'
    · rw [List.getElem?_eq_none h'] at hj; cases hj
  rw [add_none, h j hlt, hj]

theorem run_isAgg {t : TypeId} {g : Bool} (h : isAggP P t = some g) : (isAgg t).run P w = .ok g w := by
  unfold isAggP at h
  unfold isAgg
  cases hu : P.underlying t with
  | none => rw [hu] at h; cases h
  | some d =>
    rw [hu] at h
    simp only [Sem.run_bind, run_underlying hu, Result.andThen_ok]
    cases d <;> simp at h <;> subst h <;> rfl

theorem run_sizeP {t : TypeId} {n : Nat} (h : sizeP P t = some n) : (sizeOf t).run P w = .ok n w := by
  unfold sizeP at h
  cases hi : P.info? t with
  | none => rw [hi] at h; cases h
  | some i =>
    rw [hi] at h
    simp only [Option.map_some, Option.some.injEq] at h
    simp [sizeOf, typeInfo, hi, h]

theorem run_loadVar {b off : Nat} {t : TypeId} {g : Bool} (vs : List Value) (hg : isAggP P t = some g) (hs : sizeP P t = some vs.length) (hgs : g = true ∨ vs.length = 1) (h : ∀ j, j < vs.length → w.cell? ⟨b, off + j, none⟩ = vs[j]?) :
    ∃ v, (loadVar t ⟨b, off, none⟩).run P w = .ok v w ∧ ((g = true ∧ v = .agg ⟨vs⟩) ∨ (g = false ∧ vs = [v])) := by
  unfold loadVar
  simp only [Sem.run_bind, run_isAgg hg, Result.andThen_ok]
  cases g with
  | true =>
    refine ⟨.agg ⟨vs⟩, ?_, .inl ⟨rfl, rfl⟩⟩
    simp [run_sizeP hs, run_ldC vs h]
  | false =>
    have h1 : vs.length = 1 := hgs.resolve_left (by simp)
    obtain ⟨v, rfl⟩ : ∃ v, vs = [v] := List.length_eq_one_iff.1 h1
    have := h 0 (by simp)
    simp only [Nat.add_zero, List.getElem?_cons_zero] at this
    exact ⟨v, by simp [this], .inr ⟨rfl, rfl⟩⟩

/-- a list with a piece replaced -/
def spl (l : List Value) (off : Nat) (new : List Value) : List Value := l.take off ++ new ++ l.drop (off + new.length)

theorem spl_nil (l : List Value) (off : Nat) : spl l off [] = l := by simp [spl]

theorem spl_length {l : List Value} {off : Nat} {new : List Value} (h : off + new.length ≤ l.length) : (spl l off new).length = l.length := by
  simp [spl]; omega

theorem spl_get {l : List Value} {off : Nat} {new : List Value} (h : off + new.length ≤ l.length) (i : Nat) :
    (spl l off new)[i]? = if i < off then l[i]? else if i < off + new.length then new[i - off]? else l[i]? := by
  unfold spl
  have hl : (l.take off).length = off := by simp; omega
  by_cases h1 : i < off
  · rw [if_pos h1, List.append_assoc, List.getElem?_append_left (by omega), List.getElem?_take_of_lt h1]
  · rw [if_neg h1]
    by_cases h2 : i < off + new.length
    · rw [if_pos h2, List.append_assoc, List.getElem?_append_right (by omega), hl, List.getElem?_append_left (by omega)]
    · rw [if_neg h2, List.getElem?_append_right (by simp; omega)]
      simp only [List.length_append, hl, List.getElem?_drop]
      congr 1; omega

theorem spl_step {l : List Value} {off : Nat} {v : Value} {rest : List Value} (h : off + (v :: rest).length ≤ l.length) : spl (l.set off v) (off + 1) rest = spl l off (v :: rest) := by
  simp only [List.length_cons] at h
  apply List.ext_getElem?
  intro i
  rw [spl_get (by simp; omega), spl_get (by simp; omega)]
  simp only [List.length_cons, List.getElem?_set]
  by_cases h1 : i < off
  · rw [if_pos (by omega), if_pos h1, if_neg (by omega)]
  · by_cases h2 : i = off
    · subst h2
      rw [if_pos (by omega), if_pos rfl, if_pos (by omega), if_neg h1, if_pos (by omega)]
      simp
    · rw [if_neg (by omega), if_neg h1]
      by_cases h3 : i < off + 1 + rest.length
      · rw [if_pos h3, if_pos (by omega)]
        rw [show i - off = (i - (off + 1)) + 1 by omega]
        simp
      · rw [if_neg h3, if_neg (by omega), if_neg (by omega)]

theorem run_stC (P : Program) (b off : Nat) (ty : TypeId) (fr : Nat × Nat) : ∀ (vs : List Value) (i : Nat) (cur : List Value) (w : World), w.heap[b]? = some (.cells ⟨cur⟩ ty fr) → off + i + vs.length ≤ cur.length →
    (∀ k, k < cur.length → (decide (fr.1 ≤ k) && decide (k < fr.2)) = false) → (∀ v ∈ vs, v.oneCell' = true) →
    (storeCells ⟨b, off, none⟩ vs i).run P w = .ok () (wBlk w b (.cells ⟨spl cur (off + i) vs⟩ ty fr))
  | [], i, cur, w, hw, _, _, _ => by
    have : wBlk w b (.cells ⟨spl cur (off + i) []⟩ ty fr) = w := by
      rw [spl_nil]
      have hlt := lt_of_some hw
      have : w.heap.setIfInBounds b (.cells ⟨cur⟩ ty fr) = w.heap := by
        apply Array.ext_getElem?
        intro j
        by_cases e : j = b
        · subst e; rw [hw]; simp [hlt]
        · rw [Array.getElem?_setIfInBounds_ne (Ne.symm e)]
      simp only [wBlk, this]
    rw [this]
    rfl
  | v :: rest, i, cur, w, hw, hl, hf, h1 => by
    have hi : off + i < cur.length := by simp at hl; omega
    have hlt := lt_of_some hw
    have hcell : w.cell? ⟨b, off + i, none⟩ = some cur[off + i] := by simp [World.cell?, hw, hi]
    have hfro : w.frozen? ⟨b, off + i, none⟩ = false := by simp only [World.frozen?, hw]; exact hf _ hi
    have hset : w.setCell ⟨b, off + i, none⟩ v = wBlk w b (.cells ⟨cur.set (off + i) v⟩ ty fr) := by
      simp only [World.setCell, wBlk]
      congr 1
      apply Array.ext_getElem?
      intro j
      by_cases e : j = b
      · subst e; rw [Array.getElem?_modify, if_pos rfl, hw]; simp [hlt, Array.setIfInBounds, hi]
      · rw [Array.getElem?_setIfInBounds_ne (Ne.symm e), Array.getElem?_modify, if_neg (Ne.symm e)]
    have hst : (store ((⟨b, off, none⟩ : Addr).add i) v).run P w = .ok () (wBlk w b (.cells ⟨cur.set (off + i) v⟩ ty fr)) := by
      rw [add_none, run_store P w _ v _ (h1 v (by simp)), hcell]
      simp [hfro, hset]
    have ih := run_stC P b off ty fr rest (i + 1) (cur.set (off + i) v) (wBlk w b (.cells ⟨cur.set (off + i) v⟩ ty fr)) (wBlk_same _ hlt) (by simp at hl ⊢; omega) (by simpa using hf) (fun x hx => h1 x (by simp [hx]))
    simp only [storeCells, Sem.run_bind, hst, Result.andThen_ok, ih]
    congr 1
    rw [show off + (i + 1) = off + i + 1 by omega, spl_step (by simp at hl ⊢; omega)]
    simp [wBlk]
end run
end Go.Dn
