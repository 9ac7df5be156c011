/- How the abstract values and the abstract store lie in the world; what stays so. -/
import Derived.Test.YtinhgnepnkbpcaaGreatDoorDnP
import Derived.Below
set_option linter.unusedSimpArgs false
set_option linter.unusedVariables false
namespace Go.Dn
open Go Go.RowKit

/-- Where the abstract names lie: heap variables, lineages, maps in blocks; the cells of a block that stay; the blocks that stay as they are. -/
structure Gh where
  β : Nat → Nat
  τ : Nat → Nat
  ln : Nat → Nat
  sz : Nat → Nat
  μ : Nat → Nat
  st : Nat → Prop

def oneCell : Value → Bool
  | .agg _ | .tuple _ => false
  | _ => true

def Own (S : St) (G : Gh) (b : Nat) : Prop :=
  (∃ id, id < S.nb ∧ G.β id = b) ∨ (∃ t, t < S.nt ∧ G.τ t = b) ∨ (∃ id, id < S.nm ∧ G.μ id = b)

def SlOK (S : St) (G : Gh) (w : World) (es : Nat) (o : SI) (n : Nat) (a : Option Addr) (len cap : Nat) : Prop :=
  len = n ∧ len ≤ cap ∧ (a = none ↔ o.isNil = true) ∧ (∀ c, o.cap = some c → cap = c) ∧ (a = none → cap = 0) ∧
  ∀ p, a = some p → 0 < cap → 0 < es ∧ p.spot = none ∧ (∃ ty k, w.shape? p.block = some (ty, k) ∧ p.off + cap * es ≤ k) ∧
    match rd S o with
    | .here => match o.tok with
      | none => G.st p.block
      | some (t, l) => t < S.nt ∧ G.ln t = l ∧ G.τ t = p.block ∧ p.off = o.off * es ∧ p.off + len * es ≤ G.sz p.block
    | .box b boff => b < S.nb ∧ p.block = G.β b ∧ p.off = boff + o.off * es ∧ (∀ t l, o.tok = some (t, l) → t < S.nt ∧ G.ln t = l)
    | .no => ∀ t l, o.tok = some (t, l) → t < S.nt ∧ G.ln t = l

mutual
def Rv (S : St) (G : Gh) (w : World) : AV → Value → Prop
  | .undef, v => v = undef
  | .bool b, v => v = .bool b
  | .int k n, v => v = .int k n
  | .str s, v => v = .string ⟨⟨s⟩⟩
  | .nilp, v => v = .pointer none
  | .ptr id off, v => id < S.nb ∧ v = .pointer (some ⟨G.β id, off, none⟩)
  | .gptr g off, v => v = .pointer (some ⟨g, off, none⟩)
  | .anyp, v => ∃ p, v = .pointer p
  | .eptr es o xs i off, v => ∃ p len cap, SlOK S G w es o xs.length (some p) len cap ∧ (rd S o = .here → Rat S G w p.block es xs p.off) ∧ i < xs.length ∧ v = .pointer (some ⟨p.block, p.off + i * es + off, none⟩)
  | .sl es o xs, v => ∃ a len cap, v = .slice a len cap ∧ SlOK S G w es o xs.length a len cap ∧ (rd S o = .here → ∀ p, a = some p → Rat S G w p.block es xs p.off)
  | .fn f fs cs, v => ∃ a b, v = .func (.func f) ⟨a⟩ ⟨b⟩ ∧ Rl S G w fs a ∧ Rl S G w cs b
  | .nilfn, v => v = .nilFunc
  | .ifc t x, v => ∃ u, v = .iface t u ∧ Rv S G w x u
  | .nilif, v => v = .nilIface
  | .agg cs, v => ∃ vs, v = .agg ⟨vs⟩ ∧ Rl S G w cs vs
  | .tup xs, v => ∃ vs, v = .tuple ⟨vs⟩ ∧ Rl S G w xs vs
  | .nilmap, v => v = .map none
  | .map id, v => id < S.nm ∧ v = .map (some (G.μ id))
  | .raw u, v => v = u ∧ oneCell u = true
def Rl (S : St) (G : Gh) (w : World) : List AV → List Value → Prop
  | [], vs => vs = []
  | x :: xs, vs => ∃ v r, vs = v :: r ∧ Rv S G w x v ∧ Rl S G w xs r
def Rat (S : St) (G : Gh) (w : World) (b es : Nat) : List AV → Nat → Prop
  | [], _ => True
  | x :: xs, off => (∃ v, Rv S G w x v ∧ v.cells.size = es ∧ ∀ j, j < es → w.cell? ⟨b, off + j, none⟩ = v.cells[j]?) ∧ Rat S G w b es xs (off + es)
end

/-- What stays of the one state in the next. -/
structure Ext (S : St) (G : Gh) (w : World) (S' : St) (G' : Gh) (w' : World) : Prop where
  nb : S.nb ≤ S'.nb
  nt : S.nt ≤ S'.nt
  nm : S.nm ≤ S'.nm
  β : ∀ id, id < S.nb → G'.β id = G.β id
  τ : ∀ t, t < S.nt → G'.τ t = G.τ t
  ln : ∀ t, t < S.nt → G'.ln t = G.ln t
  μ : ∀ id, id < S.nm → G'.μ id = G.μ id
  size : w.heap.size ≤ w'.heap.size
  own : ∀ b, b < w.heap.size → Own S' G' b → Own S G b
  st : ∀ b, G.st b → G'.st b ∧ w'.heap[b]? = w.heap[b]?
  stNew : ∀ b, b < w.heap.size → G'.st b → G.st b
  shape : ∀ b x, w.shape? b = some x → w'.shape? b = some x
  mv : ∀ t m, t < S.nt → lk S.mv t = some m → lk S'.mv t = some m
  dl : ∀ l, lk S'.dl l = none → lk S.dl l = none
  sea : ∀ t, t < S.nt → lk S'.mv t = none → lk S'.dl (G.ln t) = none →
    G.sz (G.τ t) ≤ G'.sz (G.τ t) ∧ ∀ i, i < G.sz (G.τ t) → w'.cell? ⟨G.τ t, i, none⟩ = w.cell? ⟨G.τ t, i, none⟩
  moved : ∀ t b o, t < S.nt → lk S.mv t = none → lk S'.mv t = some (.bx b o) → lk S.dl (G.ln t) = none ∧ G'.β b = G.τ t ∧ b < S'.nb ∧ o = 0
  os : w'.os = w.os
  tape : w'.tape = w.tape
  output : w'.output = w.output

theorem rd_none {S : St} {o : SI} (h : o.tok = none) : rd S o = .here := by unfold rd; rw [h]

section mono
variable {S : St} {G : Gh} {w : World} {S' : St} {G' : Gh} {w' : World}

/-- how reading turns -/
theorem rd_ext (h : Ext S G w S' G' w') {o : SI} (hr : rd S' o = .here) (ht : ∀ t l, o.tok = some (t, l) → t < S.nt) : rd S o = .here := by
  unfold rd at hr ⊢
  cases ho : o.tok with
  | none => rfl
  | some tl =>
    obtain ⟨t, l⟩ := tl
    simp only [ho] at hr ⊢
    cases hm : lk S.mv t with
    | some m => rw [h.mv t m (ht t l ho) hm] at hr; cases m; simp at hr
    | none =>
      cases hm' : lk S'.mv t with
      | some m => rw [hm'] at hr; cases m; simp at hr
      | none =>
        rw [hm'] at hr
        cases hd : lk S'.dl l with
        | some u => rw [hd] at hr; simp at hr
        | none => simp [h.dl l hd]

theorem SlOK.mono (h : Ext S G w S' G' w') {es n : Nat} {o : SI} {a : Option Addr} {len cap : Nat} (hs : SlOK S G w es o n a len cap) : SlOK S' G' w' es o n a len cap := by
  obtain ⟨h1, h2, h3, h4, h5, h6⟩ := hs
  refine ⟨h1, h2, h3, h4, h5, fun p hp hc => ?_⟩
  obtain ⟨g1, g2, ⟨ty, k, g3, g4⟩, g5⟩ := h6 p hp hc
  refine ⟨g1, g2, ⟨ty, k, h.shape _ _ g3, g4⟩, ?_⟩
  cases ho : o.tok with
  | none =>
    rw [rd_none ho] at g5 ⊢
    simp only [ho] at g5 ⊢
    exact (h.st _ g5).1
  | some tl =>
    obtain ⟨t, l⟩ := tl
    have tlt : t < S.nt ∧ G.ln t = l := by
      revert g5
      cases rd S o <;> simp only [ho]
      · exact fun g => ⟨g.1, g.2.1⟩
      · exact fun g => g.2.2.2 t l rfl
      · exact fun g => g t l rfl
    have tlt' : t < S'.nt ∧ G'.ln t = l := ⟨Nat.lt_of_lt_of_le tlt.1 h.nt, by rw [h.ln t tlt.1]; exact tlt.2⟩
    unfold rd at g5 ⊢
    simp only [ho] at g5 ⊢
    cases hm : lk S.mv t with
    | some m =>
      cases m with
      | bx b boff =>
        rw [h.mv t _ tlt.1 hm]
        simp only [hm] at g5 ⊢
        refine ⟨Nat.lt_of_lt_of_le g5.1 h.nb, by rw [h.β b g5.1]; exact g5.2.1, g5.2.2.1, fun t' l' e => ?_⟩
        cases e; exact tlt'
    | none =>
      simp only [hm] at g5
      cases hd : lk S.dl l with
      | some u =>
        simp only [hd] at g5
        cases hm' : lk S'.mv t with
        | some m =>
          cases m with
          | bx b boff =>
            have := (h.moved t b boff tlt.1 hm hm').1
            rw [tlt.2, hd] at this
            cases this
        | none =>
          simp only []
          cases hd' : lk S'.dl l with
          | none => rw [h.dl l hd'] at hd; cases hd
          | some u' => simp only []; intro t' l' e; cases e; exact tlt'
      | none =>
        simp only [hd] at g5
        cases hm' : lk S'.mv t with
        | some m =>
          cases m with
          | bx b boff =>
            obtain ⟨_, e1, e2, e3⟩ := h.moved t b boff tlt.1 hm hm'
            simp only []
            refine ⟨e2, by rw [e1]; exact g5.2.2.1.symm, by rw [e3, g5.2.2.2.1]; omega, fun t' l' e => ?_⟩
            cases e; exact tlt'
        | none =>
          simp only []
          cases hd' : lk S'.dl l with
          | some u' => simp only []; intro t' l' e; cases e; exact tlt'
          | none =>
            simp only []
            have := h.sea t tlt.1 hm' (by rw [tlt.2]; exact hd')
            refine ⟨tlt'.1, tlt'.2, by rw [h.τ t tlt.1]; exact g5.2.2.1, g5.2.2.2.1, ?_⟩
            have := this.1
            rw [g5.2.2.1] at this
            exact Nat.le_trans g5.2.2.2.2 this

theorem SlOK.tokLt {es n : Nat} {o : SI} {a : Option Addr} {len cap : Nat} (hs : SlOK S G w es o n a len cap) {p : Addr} (hp : a = some p) (hc : 0 < cap) : ∀ t l, o.tok = some (t, l) → t < S.nt := by
  intro t l ho
  obtain ⟨_, _, _, h5⟩ := hs.2.2.2.2.2 p hp hc
  revert h5
  cases rd S o <;> simp only [ho]
  · exact fun g => g.1
  · exact fun g => (g.2.2.2 t l rfl).1
  · exact fun g => (g t l rfl).1

/-- a cell within a slice that is read by its value stays -/
theorem SlOK.cell (h : Ext S G w S' G' w') {es n : Nat} {o : SI} {p : Addr} {b len cap k : Nat} (hs : SlOK S G w es o n (some p) len cap) (hb : p.block = b) (hc : 0 < cap) (hrd : rd S' o = .here)
    (_hlo : p.off ≤ k) (hhi : k < p.off + len * es) : w'.cell? ⟨b, k, none⟩ = w.cell? ⟨b, k, none⟩ := by
  have hrd0 := rd_ext h hrd (SlOK.tokLt hs rfl hc)
  obtain ⟨_, _, _, h5⟩ := hs.2.2.2.2.2 p rfl hc
  rw [hrd0] at h5
  subst hb
  cases ho : o.tok with
  | none =>
    simp only [ho] at h5
    simp only [World.cell?, (h.st _ h5).2]
  | some tl =>
    obtain ⟨t, l⟩ := tl
    simp only [ho] at h5
    obtain ⟨g1, g2, g3, g4, g5⟩ := h5
    unfold rd at hrd
    simp only [ho] at hrd
    cases hm : lk S'.mv t with
    | some m => cases m; simp [hm] at hrd
    | none =>
      simp only [hm] at hrd
      cases hd : lk S'.dl l with
      | some u => simp [hd] at hrd
      | none =>
        have := (h.sea t g1 hm (by rw [g2]; exact hd)).2 k (by rw [g3]; omega)
        rw [g3] at this
        exact this

mutual
theorem Rv.mono (h : Ext S G w S' G' w') : ∀ (x : AV) (v : Value), Rv S G w x v → Rv S' G' w' x v
  | .undef, _, hx | .bool _, _, hx | .int _ _, _, hx | .str _, _, hx | .nilp, _, hx | .gptr _ _, _, hx | .anyp, _, hx | .nilfn, _, hx | .nilif, _, hx | .nilmap, _, hx | .raw _, _, hx => by
    simp only [Rv] at hx ⊢; exact hx
  | .ptr id off, _, hx => by
    simp only [Rv] at hx ⊢
    exact ⟨Nat.lt_of_lt_of_le hx.1 h.nb, by rw [h.β id hx.1]; exact hx.2⟩
  | .map id, _, hx => by
    simp only [Rv] at hx ⊢
    exact ⟨Nat.lt_of_lt_of_le hx.1 h.nm, by rw [h.μ id hx.1]; exact hx.2⟩
  | .eptr es o xs i off, _, hx => by
    simp only [Rv] at hx ⊢
    obtain ⟨p, len, cap, hs, hr, hi, hv⟩ := hx
    refine ⟨p, len, cap, hs.mono h, fun hrd => ?_, hi, hv⟩
    have hc : 0 < cap := by have := hs.1; have := hs.2.1; omega
    exact Rat.mono h es xs p.block p.off o p len cap xs.length hs rfl hc hrd (Nat.le_refl _) (by rw [hs.1]; omega) (hr (rd_ext h hrd (SlOK.tokLt hs rfl hc)))
  | .sl es o xs, _, hx => by
    simp only [Rv] at hx ⊢
    obtain ⟨a, len, cap, hv, hs, hr⟩ := hx
    refine ⟨a, len, cap, hv, hs.mono h, fun hrd p hp => ?_⟩
    by_cases hc : 0 < cap
    · exact Rat.mono h es xs p.block p.off o p len cap xs.length (hp ▸ hs) rfl hc hrd (Nat.le_refl _) (by rw [hs.1]; omega) (hr (rd_ext h hrd (SlOK.tokLt hs hp hc)) p hp)
    · have : xs = [] := by
        have h1 := hs.1; have h2 := hs.2.1
        exact List.length_eq_zero_iff.1 (by omega)
      subst this
      simp only [Rat]
  | .fn f fs cs, _, hx => by
    simp only [Rv] at hx ⊢
    obtain ⟨a, b, hv, h1, h2⟩ := hx
    exact ⟨a, b, hv, Rl.mono h fs a h1, Rl.mono h cs b h2⟩
  | .ifc t x, _, hx => by
    simp only [Rv] at hx ⊢
    obtain ⟨u, hv, hu⟩ := hx
    exact ⟨u, hv, Rv.mono h x u hu⟩
  | .agg cs, _, hx => by
    simp only [Rv] at hx ⊢
    obtain ⟨vs, hv, hu⟩ := hx
    exact ⟨vs, hv, Rl.mono h cs vs hu⟩
  | .tup cs, _, hx => by
    simp only [Rv] at hx ⊢
    obtain ⟨vs, hv, hu⟩ := hx
    exact ⟨vs, hv, Rl.mono h cs vs hu⟩
theorem Rl.mono (h : Ext S G w S' G' w') : ∀ (xs : List AV) (vs : List Value), Rl S G w xs vs → Rl S' G' w' xs vs
  | [], _, hx => by simp only [Rl] at hx ⊢; exact hx
  | x :: xs, _, hx => by
    simp only [Rl] at hx ⊢
    obtain ⟨v, r, hv, h1, h2⟩ := hx
    exact ⟨v, r, hv, Rv.mono h x v h1, Rl.mono h xs r h2⟩
theorem Rat.mono (h : Ext S G w S' G' w') (es : Nat) : ∀ (xs : List AV) (b off : Nat) (o : SI) (p : Addr) (len cap n : Nat), SlOK S G w es o n (some p) len cap → p.block = b → 0 < cap → rd S' o = .here →
    p.off ≤ off → off + xs.length * es ≤ p.off + len * es → Rat S G w b es xs off → Rat S' G' w' b es xs off
  | [], _, _, _, _, _, _, _, _, _, _, _, _, _, _ => by simp only [Rat]
  | x :: xs, b, off, o, p, len, cap, n, hs, hb, hc, hrd, hlo, hhi, hx => by
    simp only [Rat] at hx ⊢
    obtain ⟨⟨v, hv, hsz, hcell⟩, hr⟩ := hx
    simp only [List.length_cons, Nat.add_mul, Nat.one_mul] at hhi
    refine ⟨⟨v, Rv.mono h x v hv, hsz, fun j hj => ?_⟩, Rat.mono h es xs b (off + es) o p len cap n hs hb hc hrd (by omega) (by omega) hr⟩
    rw [← hcell j hj]
    exact SlOK.cell h hs hb hc hrd (by omega) (by omega)
end
end mono
end Go.Dn
