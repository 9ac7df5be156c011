/- The invariant, and how it is kept. -/
import Derived.Test.YtinhgnepnkbpcaaGreatDoorDnR
set_option linter.unusedSimpArgs false
set_option linter.unusedVariables false
namespace Go.Dn
open Go Go.RowKit

theorem Ext.refl {S : St} {G : Gh} {w : World} : Ext S G w S G w where
  nb := Nat.le_refl _
  nt := Nat.le_refl _
  nm := Nat.le_refl _
  β _ _ := rfl
  τ _ _ := rfl
  ln _ _ := rfl
  μ _ _ := rfl
  size := Nat.le_refl _
  own _ _ h := h
  st _ h := ⟨h, rfl⟩
  stNew _ _ h := h
  shape _ _ h := h
  mv _ _ _ h := h
  dl _ h := h
  sea _ _ _ _ := ⟨Nat.le_refl _, fun _ _ => rfl⟩
  moved t b o _ h h' := by rw [h] at h'; cases h'
  os := rfl
  tape := rfl
  output := rfl

theorem Ext.trans {S : St} {G : Gh} {w : World} {S' : St} {G' : Gh} {w' : World} {S'' : St} {G'' : Gh} {w'' : World} (h : Ext S G w S' G' w') (k : Ext S' G' w' S'' G'' w'') : Ext S G w S'' G'' w'' where
  nb := Nat.le_trans h.nb k.nb
  nt := Nat.le_trans h.nt k.nt
  nm := Nat.le_trans h.nm k.nm
  β id hi := by rw [k.β id (Nat.lt_of_lt_of_le hi h.nb), h.β id hi]
  τ id hi := by rw [k.τ id (Nat.lt_of_lt_of_le hi h.nt), h.τ id hi]
  ln id hi := by rw [k.ln id (Nat.lt_of_lt_of_le hi h.nt), h.ln id hi]
  μ id hi := by rw [k.μ id (Nat.lt_of_lt_of_le hi h.nm), h.μ id hi]
  size := Nat.le_trans h.size k.size
  own b hb ho := h.own b hb (k.own b (Nat.lt_of_lt_of_le hb h.size) ho)
  st b hb := ⟨(k.st b (h.st b hb).1).1, by rw [(k.st b (h.st b hb).1).2, (h.st b hb).2]⟩
  stNew b hb hs := h.stNew b hb (k.stNew b (Nat.lt_of_lt_of_le hb h.size) hs)
  shape b x hx := k.shape b x (h.shape b x hx)
  mv t m ht hm := k.mv t m (Nat.lt_of_lt_of_le ht h.nt) (h.mv t m ht hm)
  dl l hl := h.dl l (k.dl l hl)
  sea t ht hm hd := by
    have ht' := Nat.lt_of_lt_of_le ht h.nt
    have hm' : lk S'.mv t = none := by
      cases e : lk S'.mv t with
      | none => rfl
      | some m => rw [k.mv t m ht' e] at hm; cases hm
    have a := h.sea t ht hm' (k.dl _ hd)
    have b := k.sea t ht' hm (by rw [h.ln t ht]; exact hd)
    rw [h.τ t ht] at b
    exact ⟨Nat.le_trans a.1 b.1, fun i hi => by rw [b.2 i (Nat.lt_of_lt_of_le hi a.1), a.2 i hi]⟩
  moved t b o ht hm hm'' := by
    have ht' := Nat.lt_of_lt_of_le ht h.nt
    cases e : lk S'.mv t with
    | some m =>
      have := k.mv t m ht' e
      rw [hm''] at this
      cases this
      obtain ⟨h1, h2, h3, h4⟩ := h.moved t b o ht hm e
      exact ⟨h1, by rw [k.β b h3]; exact h2, Nat.lt_of_lt_of_le h3 k.nb, h4⟩
    | none =>
      obtain ⟨h1, h2, h3, h4⟩ := k.moved t b o ht' e hm''
      rw [h.ln t ht] at h1
      exact ⟨h.dl _ h1, by rw [h2, h.τ t ht], h3, h4⟩
  os := by rw [k.os, h.os]
  tape := by rw [k.tape, h.tape]
  output := by rw [k.output, h.output]

def RlE (S : St) (G : Gh) (w : World) : List (AV × AV) → List MapEntry → Prop
  | [], es => es = []
  | (k, v) :: r, es => ∃ e es', es = e :: es' ∧ Rv S G w k e.key ∧ Rv S G w v e.val ∧ RlE S G w r es'

theorem RlE.mono {S : St} {G : Gh} {w : World} {S' : St} {G' : Gh} {w' : World} (h : Ext S G w S' G' w') : ∀ (r : List (AV × AV)) (es : List MapEntry), RlE S G w r es → RlE S' G' w' r es
  | [], _, hx => hx
  | (k, v) :: r, _, hx => by
    obtain ⟨e, es', he, h1, h2, h3⟩ := hx
    exact ⟨e, es', he, h1.mono h, h2.mono h, RlE.mono h r es' h3⟩

/-- read by the value that its slices carry -/
def Vld (S : St) (G : Gh) (t : Nat) : Prop := lk S.mv t = none ∧ lk S.dl (G.ln t) = none

def okFr (fr : Nat × Nat) (k : Nat) (sf : Bool) : Prop := fr.1 = fr.2 ∨ (sf = true ∧ fr = (k, k + 1))

theorem okFr.free {fr : Nat × Nat} {k : Nat} {sf : Bool} (h : okFr fr k sf) {i : Nat} (hi : i < k) : (decide (fr.1 ≤ i) && decide (i < fr.2)) = false := by
  rcases h with h | ⟨_, h⟩
  · rw [h]; simp only [Bool.and_eq_false_iff, decide_eq_false_iff_not]; omega
  · subst h; simp; omega

/-- entries are numbered as they came -/
def Born (l : List MapEntry) (clk : Nat) : Prop := clk = l.length ∧ ∀ (i : Nat) (e : MapEntry), l[i]? = some e → e.born = i

def RlM (S : St) (G : Gh) (w : World) (es : List (AV × AV)) (ents : Array MapEntry) (clk : Nat) : Prop := RlE S G w es ents.toList ∧ Born ents.toList clk

theorem RlM.mono {S : St} {G : Gh} {w : World} {S' : St} {G' : Gh} {w' : World} (h : Ext S G w S' G' w') {r : List (AV × AV)} {es : Array MapEntry} {clk : Nat} (hx : RlM S G w r es clk) : RlM S' G' w' r es clk := ⟨RlE.mono h _ _ hx.1, hx.2⟩

structure Inv (P : Program) (gt : GT) (S : St) (G : Gh) (w : World) : Prop where
  boxLt : ∀ id, id < S.nb → G.β id < w.heap.size
  tokLt : ∀ t, t < S.nt → G.τ t < w.heap.size
  mapLt : ∀ id, id < S.nm → G.μ id < w.heap.size
  stLt : ∀ b, G.st b → b < w.heap.size
  stOwn : ∀ b, G.st b → ¬ Own S G b
  box : ∀ id ty cs, lk S.boxes id = some (some (ty, cs)) → id < S.nb ∧ ∃ c fr sf pre rest, w.heap[G.β id]? = some (.cells c ty fr) ∧ okFr fr c.size sf ∧ c.toList = pre ++ rest ∧ Rl S G w cs pre
  boxInj : ∀ id id' x x', lk S.boxes id = some (some x) → lk S.boxes id' = some (some x') → id ≠ id' → G.β id ≠ G.β id'
  boxTok : ∀ id x t, lk S.boxes id = some (some x) → t < S.nt → Vld S G t → G.τ t ≠ G.β id
  map : ∀ id, id < S.nm → ∃ es ents clk, lk S.maps id = some es ∧ w.heap[G.μ id]? = some (.map ents clk) ∧ RlM S G w es ents clk
  mapInj : ∀ id id', id < S.nm → id' < S.nm → id ≠ id' → G.μ id ≠ G.μ id'
  tip : ∀ t n ty sf, lk S.tip t = some (some (n, ty, sf)) → t < S.nt ∧ (Vld S G t → ∃ es c fr, sizeP P ty = some es ∧ w.heap[G.τ t]? = some (.cells c ty fr) ∧ G.sz (G.τ t) = n * es ∧ n * es ≤ c.size ∧ okFr fr c.size sf)
  tipInj : ∀ t t' x x', lk S.tip t = some (some x) → lk S.tip t' = some (some x') → t ≠ t' → Vld S G t → Vld S G t' → G.τ t ≠ G.τ t'
  line : ∀ t t', t < S.nt → t' < S.nt → Vld S G t → Vld S G t' → G.τ t = G.τ t' → G.ln t = G.ln t'
  lnLt : ∀ t, t < S.nt → G.ln t < S.nt
  kBox : ∀ id, S.nb ≤ id → lk S.boxes id = none
  kMap : ∀ id, S.nm ≤ id → lk S.maps id = none
  kMv : ∀ t, S.nt ≤ t → lk S.mv t = none
  kTip : ∀ t, S.nt ≤ t → lk S.tip t = none
  kDl : ∀ l, S.nt ≤ l → lk S.dl l = none
  glob : ∀ g cs, lk gt g = some cs → G.st g ∧ ∃ c ty fr, w.heap[g]? = some (.cells c ty fr) ∧ Rl S G w cs c.toList

/-- the world has grown: what was there is as it was -/
structure Gr (w w' : World) : Prop where
  os : w'.os = w.os
  tape : w'.tape = w.tape
  output : w'.output = w.output
  size : w.heap.size ≤ w'.heap.size
  same : ∀ b, b < w.heap.size → w'.heap[b]? = w.heap[b]?

theorem Gr.refl (w : World) : Gr w w := ⟨rfl, rfl, rfl, Nat.le_refl _, fun _ _ => rfl⟩
theorem Gr.trans {a b c : World} (h : Gr a b) (k : Gr b c) : Gr a c :=
  ⟨by rw [k.os, h.os], by rw [k.tape, h.tape], by rw [k.output, h.output], Nat.le_trans h.size k.size, fun i hi => by rw [k.same i (Nat.lt_of_lt_of_le hi h.size), h.same i hi]⟩
theorem Gr.push (w : World) (o : Obj) : Gr w { w with heap := w.heap.push o } :=
  ⟨rfl, rfl, rfl, by simp, fun b hb => by simp [Array.getElem?_push, Nat.ne_of_lt hb]⟩
theorem Gr.drew (w : World) (n : Nat) : Gr w { w with drawn := n } := ⟨rfl, rfl, rfl, Nat.le_refl _, fun _ _ => rfl⟩

theorem lt_of_some {w : World} {b : Nat} {o : Obj} (h : w.heap[b]? = some o) : b < w.heap.size := by
  rcases Nat.lt_or_ge b w.heap.size with h' | h'
  · exact h'
  · rw [Array.getElem?_eq_none h'] at h; cases h

theorem shape_lt {w : World} {b : Nat} {x : TypeId × Nat} (h : w.shape? b = some x) : b < w.heap.size := by
  rcases Nat.lt_or_ge b w.heap.size with h' | h'
  · exact h'
  · simp [World.shape?, Array.getElem?_eq_none h'] at h

section
variable {P : Program} {gt : GT} {S : St} {G : Gh} {w w' : World}

theorem Ext.of_gr (hI : Inv P gt S G w) (h : Gr w w') : Ext S G w S G w' where
  nb := Nat.le_refl _
  nt := Nat.le_refl _
  nm := Nat.le_refl _
  β _ _ := rfl
  τ _ _ := rfl
  ln _ _ := rfl
  μ _ _ := rfl
  size := h.size
  own _ _ h := h
  st b hb := ⟨hb, h.same b (hI.stLt b hb)⟩
  stNew _ _ h := h
  shape b x hx := by simpa [World.shape?, h.same b (shape_lt hx)] using hx
  mv _ _ _ h := h
  dl _ h := h
  sea t ht _ _ := ⟨Nat.le_refl _, fun i _ => by simp only [World.cell?, h.same _ (hI.tokLt t ht)]⟩
  moved t b o _ h h' := by rw [h] at h'; cases h'
  os := h.os
  tape := h.tape
  output := h.output

theorem Inv.gr (hI : Inv P gt S G w) (h : Gr w w') : Inv P gt S G w' where
  boxLt id hi := Nat.lt_of_lt_of_le (hI.boxLt id hi) h.size
  tokLt id hi := Nat.lt_of_lt_of_le (hI.tokLt id hi) h.size
  mapLt id hi := Nat.lt_of_lt_of_le (hI.mapLt id hi) h.size
  stLt id hi := Nat.lt_of_lt_of_le (hI.stLt id hi) h.size
  stOwn := hI.stOwn
  box id ty cs hb := by
    obtain ⟨h1, c, fr, sf, pre, rest, h2, h3, h4, h5⟩ := hI.box id ty cs hb
    exact ⟨h1, c, fr, sf, pre, rest, by rw [h.same _ (hI.boxLt id h1)]; exact h2, h3, h4, h5.mono (Ext.of_gr hI h)⟩
  boxInj := hI.boxInj
  boxTok := hI.boxTok
  map id hi := by
    obtain ⟨es, ents, clk, h1, h2, h3⟩ := hI.map id hi
    exact ⟨es, ents, clk, h1, by rw [h.same _ (hI.mapLt id hi)]; exact h2, h3.mono (Ext.of_gr hI h)⟩
  mapInj := hI.mapInj
  tip t n ty sf ht := by
    obtain ⟨h1, h2⟩ := hI.tip t n ty sf ht
    refine ⟨h1, fun hv => ?_⟩
    obtain ⟨es, c, fr, e1, e2, e3⟩ := h2 hv
    exact ⟨es, c, fr, e1, by rw [h.same _ (hI.tokLt t h1)]; exact e2, e3⟩
  tipInj := hI.tipInj
  line := hI.line
  lnLt := hI.lnLt
  kBox := hI.kBox
  kMap := hI.kMap
  kMv := hI.kMv
  kTip := hI.kTip
  kDl := hI.kDl
  glob g cs hg := by
    obtain ⟨h1, c, ty, fr, h2, h3⟩ := hI.glob g cs hg
    exact ⟨h1, c, ty, fr, by rw [h.same _ (hI.stLt g h1)]; exact h2, h3.mono (Ext.of_gr hI h)⟩
end

/-- what a call leaves: blocks below B that no abstract name owns -/
def Keep (B : Nat) (S : St) (G : Gh) (w w' : World) : Prop := ∀ b, b < B → ¬ Own S G b → w'.heap[b]? = w.heap[b]?

/-- One step of the store: the invariant holds on, the old is kept. -/
structure Tr (P : Program) (gt : GT) (S : St) (G : Gh) (w : World) (S' : St) (G' : Gh) (w' : World) : Prop where
  inv : Inv P gt S' G' w'
  ext : Ext S G w S' G' w'
  keep : Keep w.heap.size S G w w'

theorem Tr.refl {P : Program} {gt : GT} {S : St} {G : Gh} {w : World} (h : Inv P gt S G w) : Tr P gt S G w S G w := ⟨h, Ext.refl, fun _ _ _ => rfl⟩
theorem Tr.gr {P : Program} {gt : GT} {S : St} {G : Gh} {w w' : World} (h : Inv P gt S G w) (g : Gr w w') : Tr P gt S G w S G w' := ⟨h.gr g, Ext.of_gr h g, fun b hb _ => g.same b hb⟩
theorem Tr.trans {P : Program} {gt : GT} {S : St} {G : Gh} {w : World} {S' : St} {G' : Gh} {w' : World} {S'' : St} {G'' : Gh} {w'' : World} (h : Tr P gt S G w S' G' w') (k : Tr P gt S' G' w' S'' G'' w'') : Tr P gt S G w S'' G'' w'' :=
  ⟨k.inv, h.ext.trans k.ext, fun b hb ho => by rw [k.keep b (Nat.lt_of_lt_of_le hb h.ext.size) (fun o => ho (h.ext.own b hb o)), h.keep b hb ho]⟩

end Go.Dn
