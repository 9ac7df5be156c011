/- How an abstract frame lies in a frame. -/
import Derived.Test.YtinhgnepnkbpcaaGreatDoorDnL
set_option linter.unusedSimpArgs false
set_option linter.unusedVariables false
namespace Go.Dn
open Go Go.RowKit

/-- where a frame began -/
structure Orig where
  S : St
  G : Gh
  w : World
  N : Lim
  pv : Nat → Value
  dfs : List (FuncId × List AV)

def EntR (O : Orig) (S : St) (G : Gh) (w : World) (a : Act) (fb : Nat → Nat) (s : Nat) : Ent → Prop
  | .val x => ∃ v, a.tmps[s]? = some v ∧ Rv S G w x v
  | .box cs => a.tmps[s]? = some (.pointer (some ⟨fb s, 0, none⟩)) ∧ O.w.heap.size ≤ fb s ∧ ¬ Own S G (fb s) ∧ ¬ G.st (fb s) ∧ ∃ vs ty, w.heap[fb s]? = some (.cells ⟨vs⟩ ty (0, 0)) ∧ Rl S G w cs vs
  | .adr t off => a.tmps[s]? = some (.pointer (some ⟨fb t, off, none⟩))
  | .unk => True

structure FR (O : Orig) (S : St) (G : Gh) (w : World) (env : Env) (a : Act) (fb : Nat → Nat) : Prop where
  ent : ∀ s e, lk env s = some e → EntR O S G w a fb s e
  inj : ∀ s s' cs cs', lk env s = some (.box cs) → lk env s' = some (.box cs') → s ≠ s' → fb s ≠ fb s'

/-- the calls that are deferred -/
def DfR (S : St) (G : Gh) (w : World) : List (FuncId × List AV) → List Deferred → Prop
  | [], ds => ds = []
  | (f, xs) :: r, ds => ∃ as bs ds', ds = { target := .fn (.func f) ⟨bs⟩, args := ⟨as⟩ } :: ds' ∧ Rl S G w xs (as ++ bs) ∧ DfR S G w r ds'

theorem DfR.mono {S : St} {G : Gh} {w : World} {S' : St} {G' : Gh} {w' : World} (h : Ext S G w S' G' w') : ∀ {l : List (FuncId × List AV)} {ds : List Deferred}, DfR S G w l ds → DfR S' G' w' l ds
  | [], _, hx => hx
  | (f, xs) :: r, _, ⟨as, bs, ds', e, h1, h2⟩ => ⟨as, bs, ds', e, Rl.mono h _ _ h1, DfR.mono h h2⟩

structure Good (P : Program) (gt : GT) (O : Orig) (S : St) (G : Gh) (w : World) (env : Env) (a : Act) : Prop where
  inv : Inv P gt S G w
  fr : ∃ fb, FR O S G w env a fb
  ext : Ext O.S O.G O.w S G w
  keep : Keep O.w.heap.size O.S O.G O.w w
  defers : DfR S G w O.dfs a.defers
  size : a.tmps.size = O.N.n
  pin : ∀ t ∈ O.N.pin, a.tmps[t]? = some (O.pv t)

section
variable {P : Program} {gt : GT} {O : Orig} {S : St} {G : Gh} {w : World} {env : Env} {a : Act}

theorem Good.step {S' : St} {G' : Gh} {w' : World} (h : Good P gt O S G w env a) (t : Tr P gt S G w S' G' w') : Good P gt O S' G' w' env a := by
  obtain ⟨fb, hf⟩ := h.fr
  refine ⟨t.inv, ⟨fb, ⟨fun s e he => ?_, hf.inj⟩⟩, h.ext.trans t.ext, fun b hb ho => ?_, h.defers.mono t.ext, h.size, h.pin⟩
  · have := hf.ent s e he
    cases e with
    | val x => obtain ⟨v, h1, h2⟩ := this; exact ⟨v, h1, h2.mono t.ext⟩
    | box cs =>
      obtain ⟨h1, h2, h3, h4, vs, ty, h5, h6⟩ := this
      have hlt := lt_of_some h5
      exact ⟨h1, h2, fun o => h3 (t.ext.own _ hlt o), fun s => h4 (t.ext.stNew _ hlt s), vs, ty, by rw [t.keep _ hlt h3]; exact h5, h6.mono t.ext⟩
    | adr t' off => exact this
    | unk => trivial
  · rw [t.keep b (Nat.lt_of_lt_of_le hb h.ext.size) (fun o => ho (h.ext.own b hb o)), h.keep b hb ho]

theorem put_get {a : Act} {d : Nat} {v : Value} (hd : d < a.tmps.size) (s : Nat) : (a.put (some d) v).tmps[s]? = if s = d then some v else a.tmps[s]? := by
  simp only [Act.put]
  by_cases e : s = d
  · subst e; simp [hd]
  · rw [if_neg e, Array.getElem?_setIfInBounds_ne (Ne.symm e)]

theorem Good.putE (h : Good P gt O S G w env a) {d : Nat} (hd : O.N.ok d) {v : Value} {e : Ent} (hv : ∀ fb, FR O S G w env a fb → match e with
    | .val x => Rv S G w x v
    | .adr t off => v = .pointer (some ⟨fb t, off, none⟩)
    | .box _ => False
    | .unk => True) : Good P gt O S G w ((d, e) :: env) (a.put (some d) v) := by
  obtain ⟨fb, hf⟩ := h.fr
  have hd' : d < a.tmps.size := by rw [h.size]; exact hd.1
  refine ⟨h.inv, ⟨fb, ⟨fun s e' he => ?_, fun s s' cs cs' h1 h2 hne => ?_⟩⟩, h.ext, h.keep, h.defers, by rw [← h.size]; simp [Act.put], fun t ht => by rw [put_get hd', if_neg (hd.2 t ht)]; exact h.pin t ht⟩
  · rw [lk_cons] at he
    by_cases es : d = s
    · subst es
      rw [if_pos rfl] at he
      cases he
      have := hv fb hf
      cases e with
      | val x => exact ⟨v, by rw [put_get hd', if_pos rfl], this⟩
      | adr t off => simp only [EntR]; rw [put_get hd', if_pos rfl, this]
      | box cs => exact this.elim
      | unk => trivial
    · rw [if_neg es] at he
      have := hf.ent s e' he
      have hp : (a.put (some d) v).tmps[s]? = a.tmps[s]? := by rw [put_get hd', if_neg (Ne.symm es)]
      cases e' with
      | val x => obtain ⟨u, h1, h2⟩ := this; exact ⟨u, by rw [hp]; exact h1, h2⟩
      | box cs => obtain ⟨h1, h2⟩ := this; exact ⟨by rw [hp]; exact h1, h2⟩
      | adr t off => simp only [EntR] at this ⊢; rw [hp]; exact this
      | unk => trivial
  · rw [lk_cons] at h1 h2
    by_cases e1 : d = s
    · rw [if_pos e1] at h1; cases h1; exact (hv fb hf).elim
    · by_cases e2 : d = s'
      · rw [if_pos e2] at h2; cases h2; exact (hv fb hf).elim
      · rw [if_neg e1] at h1; rw [if_neg e2] at h2; exact hf.inj s s' cs cs' h1 h2 hne

theorem Good.putV (h : Good P gt O S G w env a) {dst : Option Nat} (hd : ∀ d, dst = some d → O.N.ok d) {v : Value} {x : AV} (hv : Rv S G w x v) : Good P gt O S G w (putV dst x env) (a.put dst v) := by
  cases dst with
  | none => exact h
  | some d => exact h.putE (hd d rfl) (e := .val x) fun _ _ => hv

theorem lk_kill (s : Nat) : ∀ (env : Env) (k : Nat), lk (kill s env) k = (lk env k).map fun e => match e with
    | .adr t o => if t = s then .unk else .adr t o
    | e => e
  | [], k => by simp [kill, lk]
  | (k', e) :: r, k => by
    have ih := lk_kill s r k
    cases e with
    | adr t o =>
      by_cases ht : t = s
      · subst ht
        simp only [kill, Nat.beq_refl, cond_true, lk_cons, ih]
        split <;> simp
      · have : Nat.beq t s = false := by
          cases hb : Nat.beq t s
          · rfl
          · exact absurd (Nat.eq_of_beq_eq_true hb) ht
        simp only [kill, this, cond_false, lk_cons, ih]
        split <;> simp [ht]
    | val x => simp only [kill, lk_cons, ih]; split <;> simp
    | box x => simp only [kill, lk_cons, ih]; split <;> simp
    | unk => simp only [kill, lk_cons, ih]; split <;> simp

/-- A local variable is made. -/
theorem Good.putBox (h : Good P gt O S G w env a) {d : Nat} (hd : O.N.ok d) {cs : List AV} {vs : List Value} (ty : TypeId) (hc : Rl S G w cs vs) :
    Good P gt O S G { w with heap := w.heap.push (.cells ⟨vs⟩ ty (0, 0)) } ((d, .box cs) :: kill d env) (a.put (some d) (.pointer (some ⟨w.heap.size, 0, none⟩))) := by
  have hg := Gr.push w (.cells ⟨vs⟩ ty (0, 0))
  have ht := Tr.gr h.inv hg
  have h' := h.step ht
  have hnew : ¬ Own S G w.heap.size := by
    rintro (⟨id, hi, he⟩ | ⟨id, hi, he⟩ | ⟨id, hi, he⟩)
    · have := h.inv.boxLt id hi; omega
    · have := h.inv.tokLt id hi; omega
    · have := h.inv.mapLt id hi; omega
  have hst : ¬ G.st w.heap.size := fun hs => by have := h.inv.stLt _ hs; omega
  obtain ⟨fb, hf⟩ := h.fr
  have hd' : d < a.tmps.size := by rw [h.size]; exact hd.1
  have hext : Ext S G w S G { w with heap := w.heap.push (.cells ⟨vs⟩ ty (0, 0)) } := Ext.of_gr h.inv hg
  refine ⟨h'.inv, ⟨upd fb d w.heap.size, ⟨fun s e he => ?_, fun s s' c c' h1 h2 hne => ?_⟩⟩, h'.ext, h'.keep, h'.defers, by rw [← h.size]; simp [Act.put], fun t ht => by rw [put_get hd', if_neg (hd.2 t ht)]; exact h.pin t ht⟩
  · rw [lk_cons] at he
    by_cases es : d = s
    · subst es
      rw [if_pos rfl] at he
      cases he
      exact ⟨by rw [put_get hd', if_pos rfl, upd_same], by rw [upd_same]; exact h.ext.size, by rw [upd_same]; exact hnew, by rw [upd_same]; exact hst, vs, ty, by rw [upd_same]; simp, hc.mono hext⟩
    · rw [if_neg es, lk_kill] at he
      have hp : ∀ v, (a.put (some d) v).tmps[s]? = a.tmps[s]? := fun v => by rw [put_get hd', if_neg (Ne.symm es)]
      cases hk : lk env s with
      | none => rw [hk] at he; cases he
      | some e0 =>
        rw [hk] at he
        have := hf.ent s e0 hk
        cases e0 with
        | val x =>
          simp only [Option.map_some, Option.some.injEq] at he; subst he
          obtain ⟨u, h1, h2⟩ := this
          exact ⟨u, by rw [hp]; exact h1, h2.mono hext⟩
        | box c =>
          simp only [Option.map_some, Option.some.injEq] at he; subst he
          obtain ⟨h1, h2, h3, h4, vs', ty', h5, h6⟩ := this
          have hne : s ≠ d := Ne.symm es
          simp only [EntR, upd_ne _ _ hne]
          refine ⟨by rw [hp]; exact h1, h2, h3, h4, vs', ty', ?_, h6.mono hext⟩
          rw [hg.same _ (lt_of_some h5)]; exact h5
        | adr t off =>
          simp only [Option.map_some, Option.some.injEq] at he
          by_cases et : t = d
          · rw [if_pos et] at he; subst he; trivial
          · rw [if_neg et] at he; subst he
            simp only [EntR] at this ⊢
            rw [hp, upd_ne _ _ et]; exact this
        | unk => simp only [Option.map_some, Option.some.injEq] at he; subst he; trivial
  · have old : ∀ s c, d ≠ s → lk ((d, .box cs) :: kill d env) s = some (.box c) → lk env s = some (.box c) := fun s c es hh => by
      rw [lk_cons, if_neg es, lk_kill] at hh
      cases hk : lk env s with
      | none => rw [hk] at hh; cases hh
      | some e0 =>
        rw [hk] at hh
        cases e0 with
        | adr t off => simp only [Option.map_some, Option.some.injEq] at hh; split at hh <;> cases hh
        | val x => simp only [Option.map_some, Option.some.injEq] at hh; cases hh
        | box c' => simp only [Option.map_some, Option.some.injEq] at hh; rw [hh]
        | unk => simp only [Option.map_some, Option.some.injEq] at hh; cases hh
    have lt : ∀ s c, lk env s = some (.box c) → fb s < w.heap.size := fun s c hk => by
      obtain ⟨_, _, _, _, vs', ty', h5, _⟩ := hf.ent s _ hk
      exact lt_of_some h5
    by_cases e1 : d = s
    · have e2 : d ≠ s' := fun q => hne (e1.symm.trans q)
      have := lt s' c' (old s' c' e2 h2)
      subst e1; rw [upd_same, upd_ne _ _ (Ne.symm e2)]; omega
    · by_cases e2 : d = s'
      · have := lt s c (old s c e1 h1)
        subst e2; rw [upd_same, upd_ne _ _ (Ne.symm e1)]; omega
      · rw [upd_ne _ _ (Ne.symm e1), upd_ne _ _ (Ne.symm e2)]
        exact hf.inj s s' c c' (old s c e1 h1) (old s' c' e2 h2) hne

/-- A block that nobody knows of is written. -/
theorem local_step (hI : Inv P gt S G w) {b : Nat} {c c' : Array Value} {ty : TypeId} {fr : Nat × Nat} (ho : ¬ Own S G b) (hs : ¬ G.st b) (hw : w.heap[b]? = some (.cells c ty fr)) (hc : c'.size = c.size) :
    Inv P gt S G (wBlk w b (.cells c' ty fr)) ∧ Ext S G w S G (wBlk w b (.cells c' ty fr)) := by
  have hτ : ∀ t, t < S.nt → G.τ t ≠ b := fun t ht e => ho (.inr (.inl ⟨t, ht, e⟩))
  have hβ : ∀ id, id < S.nb → G.β id ≠ b := fun t ht e => ho (.inl ⟨t, ht, e⟩)
  have hμ : ∀ id, id < S.nm → G.μ id ≠ b := fun t ht e => ho (.inr (.inr ⟨t, ht, e⟩))
  have hst : ∀ b', G.st b' → b' ≠ b := fun b' hb' e => hs (e ▸ hb')
  have hext : Ext S G w S G (wBlk w b (.cells c' ty fr)) :=
    { (Ext.refl : Ext S G w S G w) with
      size := by rw [wBlk_size]; exact Nat.le_refl _
      st := fun b' hb' => ⟨hb', wBlk_ne _ (hst b' hb')⟩
      shape := wBlk_shape hw hc
      sea := fun t ht _ _ => ⟨Nat.le_refl _, fun i _ => by simp only [World.cell?, wBlk_ne _ (hτ t ht)]⟩
      moved := fun t b o _ h h' => by rw [h] at h'; cases h' }
  refine ⟨?_, hext⟩
  exact
    { boxLt := fun i hi => by rw [wBlk_size]; exact hI.boxLt i hi
      tokLt := fun i hi => by rw [wBlk_size]; exact hI.tokLt i hi
      mapLt := fun i hi => by rw [wBlk_size]; exact hI.mapLt i hi
      stLt := fun i hi => by rw [wBlk_size]; exact hI.stLt i hi
      stOwn := hI.stOwn
      box := fun i ty' cs'' hh => by
        obtain ⟨h1, c'', fr', sf, pre, rest, h2, h3, h4, h5⟩ := hI.box i ty' cs'' hh
        exact ⟨h1, c'', fr', sf, pre, rest, by rw [wBlk_ne _ (hβ i h1)]; exact h2, h3, h4, h5.mono hext⟩
      boxInj := hI.boxInj
      boxTok := hI.boxTok
      map := fun i hi => by
        obtain ⟨es, ents, clk, h1, h2, h3⟩ := hI.map i hi
        exact ⟨es, ents, clk, h1, by rw [wBlk_ne _ (hμ i hi)]; exact h2, h3.mono hext⟩
      mapInj := hI.mapInj
      tip := fun t n ty' sf ht => by
        obtain ⟨h1, h2⟩ := hI.tip t n ty' sf ht
        refine ⟨h1, fun hv => ?_⟩
        obtain ⟨es, c'', fr', e1, e2, e3⟩ := h2 hv
        exact ⟨es, c'', fr', e1, by rw [wBlk_ne _ (hτ t h1)]; exact e2, e3⟩
      tipInj := hI.tipInj
      line := hI.line
      lnLt := hI.lnLt
      kBox := hI.kBox
      kMap := hI.kMap
      kMv := hI.kMv
      kTip := hI.kTip
      kDl := hI.kDl
      glob := fun g cs hgl => by
        obtain ⟨h1, c, ty, fr, h2, h3⟩ := hI.glob g cs hgl
        exact ⟨h1, c, ty, fr, by rw [wBlk_ne _ (hst g h1)]; exact h2, h3.mono hext⟩ }

/-- A local variable is written. -/
theorem Good.stLocal (h : Good P gt O S G w env a) {t : Nat} {cs cs' : List AV} {vs vs' : List Value} {ty : TypeId} {fb : Nat → Nat} (hf : FR O S G w env a fb) (ht : lk env t = some (.box cs))
    (hw : w.heap[fb t]? = some (.cells ⟨vs⟩ ty (0, 0))) (hl : vs'.length = vs.length) (hr : Rl S G w cs' vs') :
    Good P gt O S G (wBlk w (fb t) (.cells ⟨vs'⟩ ty (0, 0))) ((t, .box cs') :: env) a := by
  obtain ⟨g1, g2, g3, g4, _, _, _, _⟩ := hf.ent t _ ht
  have hlt := lt_of_some hw
  obtain ⟨hI, hext⟩ := local_step (c' := ⟨vs'⟩) h.inv g3 g4 hw (by simpa using hl)
  refine ⟨hI, ⟨fb, ⟨fun s e he => ?_, fun s s' c c' h1 h2 hne => ?_⟩⟩, h.ext.trans hext, fun b hb ho => ?_, h.defers.mono hext, h.size, h.pin⟩
  · rw [lk_cons] at he
    by_cases es : t = s
    · subst es
      rw [if_pos rfl] at he
      cases he
      exact ⟨g1, g2, g3, g4, vs', ty, wBlk_same _ hlt, hr.mono hext⟩
    · rw [if_neg es] at he
      have := hf.ent s e he
      cases e with
      | val x => obtain ⟨u, h1, h2⟩ := this; exact ⟨u, h1, h2.mono hext⟩
      | box c =>
        obtain ⟨h1, h2, h3, h4, vs', ty', h5, h6⟩ := this
        exact ⟨h1, h2, h3, h4, vs', ty', by rw [wBlk_ne _ (hf.inj s t _ _ he ht (Ne.symm es))]; exact h5, h6.mono hext⟩
      | adr t' off => exact this
      | unk => trivial
  · have old : ∀ s c, lk ((t, .box cs') :: env) s = some (.box c) → ∃ c0, lk env s = some (.box c0) := fun s c hh => by
      rw [lk_cons] at hh
      by_cases es : t = s
      · subst es; exact ⟨_, ht⟩
      · rw [if_neg es] at hh; exact ⟨_, hh⟩
    obtain ⟨c1, k1⟩ := old s c h1
    obtain ⟨c2, k2⟩ := old s' c' h2
    exact hf.inj s s' c1 c2 k1 k2 hne
  · rw [wBlk_ne _ (by omega)]; exact h.keep b hb ho

/-- What is forgotten does no harm. -/
theorem Good.forget (h : Good P gt O S G w env a) {env' : Env} (he : ∀ s e, lk env' s = some e → lk env s = some e) : Good P gt O S G w env' a := by
  obtain ⟨fb, hf⟩ := h.fr
  exact ⟨h.inv, ⟨fb, ⟨fun s e hh => hf.ent s e (he s e hh), fun s s' c c' h1 h2 => hf.inj s s' c c' (he _ _ h1) (he _ _ h2)⟩⟩, h.ext, h.keep, h.defers, h.size, h.pin⟩

theorem lk_keepE (env : Env) : ∀ (ks : List Nat) (s : Nat) (e : Ent), lk (keepE env ks) s = some e → lk env s = some e
  | [], s, e, h => by simp [keepE, lk] at h
  | k :: r, s, e, h => by
    have ih := lk_keepE env r s e
    simp only [keepE] at h
    split at h
    · rename_i v hk
      rw [lk_cons] at h
      by_cases es : k = s
      · subst es; rw [if_pos rfl] at h; rw [hk]; exact h
      · rw [if_neg es] at h; exact ih h
    · rename_i v hk
      rw [lk_cons] at h
      by_cases es : k = s
      · subst es; rw [if_pos rfl] at h; rw [hk]; exact h
      · rw [if_neg es] at h; exact ih h
    · exact ih h

theorem Good.keepE (h : Good P gt O S G w env a) (ks : List Nat) : Good P gt O S G w (keepE env ks) a := h.forget (lk_keepE env ks)
end
end Go.Dn
