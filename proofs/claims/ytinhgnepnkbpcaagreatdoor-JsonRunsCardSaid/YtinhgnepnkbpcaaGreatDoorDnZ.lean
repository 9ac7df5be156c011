/- The entry: what is read as data, as abstract values. -/
import Derived.Test.YtinhgnepnkbpcaaGreatDoorDnY
set_option linter.unusedSimpArgs false
set_option linter.unusedVariables false
namespace Go.Dn
open Go Go.RowKit

/-- cells of a type that has no pointers, maps, functions, interfaces in it -/
def AVT (P : Program) : Nat → TypeId → List AV → Prop
  | 0, _, _ => False
  | d + 1, t, xs => match P.underlying t with
    | some .bool => ∃ b, xs = [.bool b]
    | some (.int k) => ∃ n, xs = [.int k n] ∧ (Lit.int k n).wf = true
    | some .string => ∃ s, xs = [.str s] ∧ s.length ≤ maxLen
    | some (.slice e) => ∃ nl ys, xs = [.sl (P.cellsOf e) ⟨none, 0, none, nl⟩ ys] ∧ ys.length ≤ maxLen ∧ ∀ y ∈ ys, AVT P d e y.cells ∧ (isAggP P e = some true → ∃ cs, y = .agg cs) ∧ (isAggP P e = some false → y.cells = [y])
    | some (.struct fs) => xs.length = P.cellsOf t ∧ ∀ f ∈ fs.toList, AVT P d f.type ((xs.drop f.offset).take (P.cellsOf f.type))
    | _ => False

/-- the fields lie one behind the other -/
def fieldsAt (P : Program) : List Field → Nat → Option Nat
  | [], n => some n
  | f :: r, n => if f.offset = n then fieldsAt P r (n + P.cellsOf f.type) else none

def okType (P : Program) (L : List TypeId) (t : TypeId) : Bool :=
  match P.underlying t with
  | some .bool | some (.int _) | some .string => true
  | some (.slice e) => L.any (Nat.beq e) && Nat.blt 0 (P.cellsOf e)
  | some (.struct fs) => (fs.toList.all fun f => L.any (Nat.beq f.type)) && decide (fieldsAt P fs.toList 0 = some (P.cellsOf t))
  | _ => false

def okTypes (P : Program) (L : List TypeId) : Bool := L.all (okType P L)

theorem mapM_get {α β : Type} {f : α → Option β} : ∀ {l : List α} {r : List β}, l.mapM f = some r → r.length = l.length ∧ ∀ (i : Nat) x, l[i]? = some x → ∃ y, f x = some y ∧ r[i]? = some y
  | [], r, h => by rw [mapM_some_nil h]; exact ⟨rfl, fun i x hx => by simp at hx⟩
  | a :: l, r, h => by
    obtain ⟨y, r', h1, h2, rfl⟩ := mapM_some_cons h
    obtain ⟨g1, g2⟩ := mapM_get h2
    refine ⟨by simp [g1], fun i x hx => ?_⟩
    cases i with
    | zero => simp at hx; subst hx; exact ⟨y, h1, rfl⟩
    | succ i => simpa using g2 i x (by simpa using hx)

theorem cells_get {w : World} {base : Nat} {a : Addr} {n : Nat} {cs : List Value} (h : w.cells? base a n = some cs) : cs.length = n ∧ ∀ i, i < n → w.cell? (a.add i) = cs[i]? := by
  unfold World.cells? at h
  split at h
  · obtain ⟨h1, h2⟩ := mapM_get h
    refine ⟨by simpa using h1, fun i hi => ?_⟩
    obtain ⟨y, g1, g2⟩ := h2 i i (by simp [hi])
    rw [g1, g2]
  · cases h

theorem Rat_of_get {S : St} {G : Gh} {w : World} {b es : Nat} : ∀ {ys : List AV} {off : Nat}, (∀ (i : Nat) y, ys[i]? = some y → ∃ v, Rv S G w y v ∧ v.cells.size = es ∧ ∀ j, j < es → w.cell? ⟨b, off + i * es + j, none⟩ = v.cells[j]?) → Rat S G w b es ys off
  | [], _, _ => by simp only [Rat]
  | y :: ys, off, h => by
    simp only [Rat]
    refine ⟨?_, Rat_of_get fun i z hz => ?_⟩
    · obtain ⟨v, h1, h2, h3⟩ := h 0 y rfl
      exact ⟨v, h1, h2, fun j hj => by have := h3 j hj; rwa [Nat.zero_mul, Nat.add_zero] at this⟩
    · obtain ⟨v, h1, h2, h3⟩ := h (i + 1) z (by simpa using hz)
      exact ⟨v, h1, h2, fun j hj => by rw [← h3 j hj, show off + es + i * es + j = off + (i + 1) * es + j by rw [Nat.add_mul]; omega]⟩

theorem seq_ex {α : Type} {n : Nat} {R : Nat → α → Prop} (h : ∀ i, i < n → ∃ y, R i y) : ∃ ys : List α, ys.length = n ∧ ∀ i y, ys[i]? = some y → R i y := by
  induction n with
  | zero => exact ⟨[], rfl, fun i y hy => by simp at hy⟩
  | succ n ih =>
    obtain ⟨ys, h1, h2⟩ := ih fun i hi => h i (by omega)
    obtain ⟨y, hy⟩ := h n (by omega)
    refine ⟨ys ++ [y], by simp [h1], fun i z hz => ?_⟩
    rcases Nat.lt_or_ge i ys.length with hi | hi
    · rw [List.getElem?_append_left hi] at hz; exact h2 i z hz
    · rw [List.getElem?_append_right hi] at hz
      have : i = n := by
        have := (List.getElem?_eq_some_iff.1 hz).1
        simp at this
        omega
      subst this
      rw [h1, Nat.sub_self] at hz
      simp at hz
      subst hz
      exact hy

section
variable {P : Program} {W : World} {H : Type} {enc : TypeId × Value → H}

theorem any_mem {L : List TypeId} {t : TypeId} (h : L.any (Nat.beq t) = true) : t ∈ L := by
  obtain ⟨x, hx, e⟩ := List.any_eq_true.1 h
  rw [Nat.eq_of_beq_eq_true e]; exact hx

/-- one element -/
theorem elem_av {g : Bool} {e : TypeId} {d : Nat} (hg : isAggP P e = some g) {cs : List Value} {xs : List AV} (hr : Rl St.init (G0 W) W xs cs) (ht : AVT P d e xs) :
    ∃ y v, y.cells = xs ∧ v.cells.toList = cs ∧ Rv St.init (G0 W) W y v ∧ (g = true → ∃ zs, y = .agg zs) ∧ (g = false → y.cells = [y]) := by
  cases g with
  | true => exact ⟨.agg xs, .agg ⟨cs⟩, rfl, rfl, by simp only [Rv]; exact ⟨_, rfl, hr⟩, fun _ => ⟨_, rfl⟩, fun h => by cases h⟩
  | false =>
    have hone : ∃ x, xs = [x] ∧ x.cells = [x] ∧ ∀ zs, x ≠ .agg zs := by
      cases d with
      | zero => exact ht.elim
      | succ d =>
        unfold AVT at ht
        unfold isAggP at hg
        split at ht
        · obtain ⟨b, rfl⟩ := ht; exact ⟨_, rfl, rfl, fun zs h => by cases h⟩
        · obtain ⟨n, rfl, _⟩ := ht; exact ⟨_, rfl, rfl, fun zs h => by cases h⟩
        · obtain ⟨s, rfl, _⟩ := ht; exact ⟨_, rfl, rfl, fun zs h => by cases h⟩
        · obtain ⟨nl, ys, rfl, _⟩ := ht; exact ⟨_, rfl, rfl, fun zs h => by cases h⟩
        · rename_i fs hu; rw [hu] at hg; cases hg
        · exact ht.elim
    obtain ⟨x, rfl, hx, hna⟩ := hone
    simp only [Rl] at hr
    obtain ⟨v, r, rfl, hv, rfl⟩ := hr
    refine ⟨x, v, hx, ?_, hv, (fun h => by cases h), fun _ => hx⟩
    rw [Value.cells_of_not_agg (hv.not_agg hna)]

theorem fields_av {d : Nat} : ∀ (fs : List Field) (n m : Nat) (cs : List Value), fieldsAt P fs n = some m → cs.length = m →
    (∀ f ∈ fs, ∃ xs, Rl St.init (G0 W) W xs ((cs.drop f.offset).take (P.cellsOf f.type)) ∧ AVT P d f.type xs) →
    n ≤ m ∧ (∀ f ∈ fs, n ≤ f.offset) ∧ ∃ xs, Rl St.init (G0 W) W xs (cs.drop n) ∧ ∀ f ∈ fs, AVT P d f.type ((xs.drop (f.offset - n)).take (P.cellsOf f.type))
  | [], n, m, cs, h, hl, _ => by
    simp only [fieldsAt, Option.some.injEq] at h
    subst h
    refine ⟨Nat.le_refl _, fun f hf => (by cases hf), [], ?_, fun f hf => (by cases hf)⟩
    rw [List.drop_of_length_le (by omega)]
    exact Rl.nil
  | f :: r, n, m, cs, h, hl, hf => by
    simp only [fieldsAt] at h
    split at h
    · rename_i ho
      obtain ⟨h1, h2, xr, h3, h4⟩ := fields_av r _ m cs h hl fun g hg => hf g (by simp [hg])
      obtain ⟨xf, g1, g2⟩ := hf f (by simp)
      rw [ho] at g1
      have hxf : xf.length = P.cellsOf f.type := by
        have := g1.length
        rw [List.length_take, List.length_drop] at this
        omega
      refine ⟨by omega, fun g hg => ?_, xf ++ xr, ?_, fun g hg => ?_⟩
      · rcases List.mem_cons.1 hg with rfl | hg
        · omega
        · have := h2 g hg; omega
      · have := g1.append h3
        rwa [← List.drop_drop, List.take_append_drop] at this
      · rcases List.mem_cons.1 hg with rfl | hg
        · rw [ho, Nat.sub_self, List.drop_zero, List.take_append_of_le_length (by omega), List.take_of_length_le (by omega)]
          exact g2
        · have hgo := h2 g hg
          have := h4 g hg
          rw [List.drop_append, List.drop_of_length_le (by omega), List.nil_append, hxf, show g.offset - n - P.cellsOf f.type = g.offset - (n + P.cellsOf f.type) by omega]
          exact this
    · cases h

theorem Rl.length0 {xs : List AV} {vs : List Value} (h : Rl St.init (G0 W) W xs vs) : vs.length = xs.length := h.length

theorem trod_av {L : List TypeId} (hL : okTypes P L = true) : ∀ (fuel : Nat) (t : TypeId) (cs : List Value) (x : DataW H × List MemPlace), t ∈ L → DataW.trod enc P W 0 (fun _ => true) true fuel t cs = some x →
    ∃ xs, Rl St.init (G0 W) W xs cs ∧ AVT P fuel t xs
  | 0, _, _, _, _, h => by simp [DataW.trod] at h
  | fuel + 1, t, cs, x, ht, h => by
    have hok := List.all_eq_true.1 hL t ht
    unfold okType at hok
    unfold AVT
    cases hu : P.underlying t with
    | none => rw [hu] at hok; cases hok
    | some td =>
    rw [hu] at hok
    cases td <;> simp only [Bool.false_eq_true] at hok
    case bool =>
      obtain ⟨b, rfl, _⟩ := DataW.trod_bool hu h
      exact ⟨[.bool b], Rl.cons (by simp only [Rv]) Rl.nil, b, rfl⟩
    case int k =>
      obtain ⟨n, rfl, _, hw⟩ := DataW.trod_int hu h
      exact ⟨[.int k n], Rl.cons (by simp only [Rv]) Rl.nil, n, rfl, hw⟩
    case string =>
      obtain ⟨s, rfl, _, hs⟩ := DataW.trod_string hu h
      exact ⟨[.str s.data.toList], Rl.cons (by simp only [Rv]) Rl.nil, _, rfl, by simpa using hs⟩
    case slice e =>
      simp only [Bool.and_eq_true] at hok
      have heL := any_mem hok.1
      have hc0 := blt_lt hok.2
      rcases DataW.trod_slice hu h with ⟨rfl, _⟩ | ⟨a, len, cap, elems, rest, n, hn, rfl, _, _, hl, hm, hlen, hel, hsp, _⟩
      · refine ⟨[.sl (P.cellsOf e) ⟨none, 0, none, true⟩ []], Rl.cons ?_ Rl.nil, true, [], rfl, Nat.zero_le _, fun y hy => by cases hy⟩
        simp only [Rv]
        exact ⟨none, 0, 0, rfl, ⟨rfl, Nat.le_refl _, by simp, (fun c hc => by cases hc), (fun _ => rfl), (fun p hp => by cases hp)⟩, (fun _ p hp => by cases hp)⟩
      · cases hn
        obtain ⟨hrl, hrest⟩ := hsp rfl
        -- every element's cells
        have cellsAt : ∀ i, i < cap → ∃ cs' y, W.cells? 0 (a.add (i * P.cellsOf e)) (P.cellsOf e) = some cs' ∧ DataW.trod enc P W 0 (fun _ => true) true fuel e cs' = some y := fun i hi => by
          have : ∃ y, (W.cells? 0 (a.add (i * P.cellsOf e)) (P.cellsOf e)).bind (DataW.trod enc P W 0 (fun _ => true) true fuel e) = some y := by
            by_cases h' : i < len
            · exact ⟨_, (hel i h').trans (List.getElem?_eq_getElem (by omega))⟩
            · have := hrest (i - len) (by omega)
              rw [show len + (i - len) = i by omega] at this
              exact ⟨_, this.trans (List.getElem?_eq_getElem (by omega))⟩
          obtain ⟨y, hy⟩ := this
          obtain ⟨cs', e1, e2⟩ := Option.bind_eq_some_iff.1 hy
          exact ⟨cs', y, e1, e2⟩
        have hge : ∃ g, isAggP P e = some g := by
          have := List.all_eq_true.1 hL e heL
          unfold okType at this
          unfold isAggP
          split at this <;> first | (cases this; done) | skip
          all_goals rename_i hh; rw [hh]; exact ⟨_, rfl⟩
        obtain ⟨g, hg⟩ := hge
        have hspot : 0 < cap → a.spot = none := fun hc => by
          obtain ⟨cs', y, e1, _⟩ := cellsAt 0 hc
          obtain ⟨l1, l2⟩ := cells_get e1
          have := l2 0 hc0
          rw [Nat.zero_mul] at this
          have ha : (a.add 0).add 0 = a := by simp [Addr.add]
          rw [ha] at this
          cases hs : a.spot with
          | none => rfl
          | some s =>
            exfalso
            have h0 : cs'[0]? = some cs'[0] := List.getElem?_eq_getElem (by omega)
            rw [h0] at this
            unfold World.cell? at this
            split at this
            · simp [hs] at this
            · cases this
        have cellAt : ∀ i, i < cap → ∃ cs', cs'.length = P.cellsOf e ∧ (∀ j, j < P.cellsOf e → W.cell? ⟨a.block, a.off + i * P.cellsOf e + j, none⟩ = cs'[j]?) ∧ ∃ y, DataW.trod enc P W 0 (fun _ => true) true fuel e cs' = some y := fun i hi => by
          obtain ⟨cs', y, e1, e2⟩ := cellsAt i hi
          obtain ⟨l1, l2⟩ := cells_get e1
          refine ⟨cs', l1, fun j hj => ?_, y, e2⟩
          rw [← l2 j hj]
          have hs := hspot (by omega)
          obtain ⟨ab, ao, as⟩ := a
          simp only at hs
          subst hs
          rw [add_none, add_none]
        obtain ⟨ys, hy1, hy2⟩ := seq_ex (n := len) (R := fun i y => AVT P fuel e y.cells ∧ ((isAggP P e = some true → ∃ zs, y = .agg zs) ∧ (isAggP P e = some false → y.cells = [y])) ∧ ∃ v, Rv St.init (G0 W) W y v ∧ v.cells.size = P.cellsOf e ∧ ∀ j, j < P.cellsOf e → W.cell? ⟨a.block, a.off + i * P.cellsOf e + j, none⟩ = v.cells[j]?) fun i hi => by
          obtain ⟨cs', l1, l2, y, hy⟩ := cellAt i (by omega)
          obtain ⟨xs, r1, r2⟩ := trod_av hL fuel e cs' y heL hy
          obtain ⟨z, v, z1, z2, z3, z4, z5⟩ := elem_av hg r1 r2
          refine ⟨z, by rw [z1]; exact r2, ⟨fun h' => z4 (by rw [hg] at h'; cases h'; rfl), fun h' => z5 (by rw [hg] at h'; cases h'; rfl)⟩, v, z3, ?_, fun j hj => ?_⟩
          · rw [← l1, ← z2]; simp
          · rw [l2 j hj, ← z2]; simp
        refine ⟨[.sl (P.cellsOf e) ⟨none, 0, none, false⟩ ys], Rl.cons ?_ Rl.nil, false, ys, rfl, by omega, fun y hy => ?_⟩
        · simp only [Rv]
          refine ⟨some a, len, cap, rfl, ⟨hy1.symm, hl, by simp, (fun c hc => by cases hc), (fun hc => by cases hc), fun p hp hc => ?_⟩, fun _ p hp => ?_⟩
          · cases hp
            obtain ⟨cs', l1, l2, _⟩ := cellAt (cap - 1) (by omega)
            have hlast := l2 (P.cellsOf e - 1) (by omega)
            rw [List.getElem?_eq_getElem (by omega)] at hlast
            unfold World.cell? at hlast
            split at hlast
            · rename_i c ty fr hb
              simp only [Option.isSome_none, Bool.false_eq_true, if_false] at hlast
              have hlt := (Array.getElem?_eq_some_iff.1 hlast).1
              refine ⟨hc0, hspot hc, ⟨ty, c.size, by simp [World.shape?, hb], ?_⟩, ?_⟩
              · have : cap * P.cellsOf e = (cap - 1) * P.cellsOf e + P.cellsOf e := by
                  rw [← Nat.succ_mul]; congr 1; omega
                omega
              · rw [rd_none rfl]
                exact (Array.getElem?_eq_some_iff.1 hb).1
            · cases hlast
          · cases hp
            exact Rat_of_get fun i y hy => (hy2 i y hy).2.2
        · obtain ⟨i, hi⟩ := List.getElem?_of_mem hy
          exact ⟨(hy2 i y hi).1, (hy2 i y hi).2.1⟩
    case struct fs =>
      simp only [Bool.and_eq_true, decide_eq_true_eq] at hok
      obtain ⟨xs, n, hn, _, hlen, hxl, hfs⟩ := DataW.trod_struct hu h
      cases hn
      obtain ⟨_, _, zs, z1, z2⟩ := fields_av (P := P) (W := W) (d := fuel) fs.toList 0 _ cs hok.2 hlen fun f hf => by
        obtain ⟨i, hi⟩ := List.getElem?_of_mem hf
        have hi' : fs[i]? = some f := by simpa using hi
        have := hfs i f hi'
        have hlt : i < xs.length := by
          rw [hxl]
          exact (Array.getElem?_eq_some_iff.1 hi').1
        rw [List.getElem?_eq_getElem hlt] at this
        exact trod_av hL fuel f.type _ _ (any_mem (List.all_eq_true.1 hok.1 f hf)) this
      rw [List.drop_zero] at z1
      exact ⟨zs, z1, by rw [← hlen, z1.length], z2⟩
end
end Go.Dn
