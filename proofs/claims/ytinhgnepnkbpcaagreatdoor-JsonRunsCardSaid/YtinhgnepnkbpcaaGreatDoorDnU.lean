/- The steps of the store that write. -/
import Derived.Test.YtinhgnepnkbpcaaGreatDoorDnT
set_option linter.unusedSimpArgs false
set_option linter.unusedVariables false
namespace Go.Dn
open Go Go.RowKit

def wBlk (w : World) (b : Nat) (o : Obj) : World := { w with heap := w.heap.setIfInBounds b o }

theorem wBlk_size (w : World) (b : Nat) (o : Obj) : (wBlk w b o).heap.size = w.heap.size := by simp [wBlk]
theorem wBlk_same {w : World} {b : Nat} (o : Obj) (h : b < w.heap.size) : (wBlk w b o).heap[b]? = some o := by simp [wBlk, h]
theorem wBlk_ne {w : World} {b b' : Nat} (o : Obj) (h : b' ≠ b) : (wBlk w b o).heap[b']? = w.heap[b']? := by
  simp only [wBlk]; rw [Array.getElem?_setIfInBounds_ne (Ne.symm h)]

section
variable {P : Program} {gt : GT} {S : St} {G : Gh} {w : World}

/-- the shape of every block stays where one row of cells takes another's place -/
theorem wBlk_shape {b : Nat} {c c' : Array Value} {ty : TypeId} {fr fr' : Nat × Nat} (h : w.heap[b]? = some (.cells c ty fr)) (hs : c'.size = c.size) :
    ∀ b' x, w.shape? b' = some x → (wBlk w b (.cells c' ty fr')).shape? b' = some x := by
  intro b' x hx
  by_cases e : b' = b
  · subst e
    simp only [World.shape?, wBlk_same _ (lt_of_some h), h, hs] at hx ⊢
    exact hx
  · simpa only [World.shape?, wBlk_ne _ e] using hx

/-- What stays where a block that an abstract name owns is written: the store's names stay. -/
theorem Ext.blk (hI : Inv P gt S G w) {S' : St} {b : Nat} {c c' : Array Value} {ty : TypeId} {fr fr' : Nat × Nat} (hb : Own S G b) (h : w.heap[b]? = some (.cells c ty fr)) (hs : c'.size = c.size)
    (hnb : S'.nb = S.nb) (hnt : S'.nt = S.nt) (hnm : S'.nm = S.nm) (hmv : S'.mv = S.mv) (hdl : S'.dl = S.dl)
    (hc : ∀ t, t < S.nt → Vld S G t → G.τ t = b → ∀ i, i < G.sz b → c'[i]? = c[i]?) : Ext S G w S' G (wBlk w b (.cells c' ty fr')) where
  nb := Nat.le_of_eq hnb.symm
  nt := Nat.le_of_eq hnt.symm
  nm := Nat.le_of_eq hnm.symm
  β _ _ := rfl
  τ _ _ := rfl
  ln _ _ := rfl
  μ _ _ := rfl
  size := by rw [wBlk_size]; exact Nat.le_refl _
  own _ _ ho := by unfold Own at ho ⊢; rw [hnb, hnt, hnm] at ho; exact ho
  st _ hb' := ⟨hb', wBlk_ne _ (fun e => hI.stOwn _ hb' (by rw [e]; exact hb))⟩
  stNew _ _ h := h
  shape := wBlk_shape h hs
  mv _ _ _ h := by rw [hmv]; exact h
  dl _ h := by rw [hdl] at h; exact h
  sea t ht hm hd := by
    refine ⟨Nat.le_refl _, fun i hi => ?_⟩
    rw [hmv] at hm; rw [hdl] at hd
    by_cases e : G.τ t = b
    · simp only [World.cell?, e, wBlk_same _ (lt_of_some h), h]
      simpa using hc t ht ⟨hm, hd⟩ e i (e ▸ hi)
    · simp only [World.cell?, wBlk_ne _ e]
  moved _ _ _ _ h h1 := by rw [hmv, h] at h1; cases h1
  os := rfl
  tape := rfl
  output := rfl

theorem Keep.blk {b : Nat} (o : Obj) (hb : Own S G b) (B : Nat) : Keep B S G w (wBlk w b o) :=
  fun b' _ hn => wBlk_ne _ (fun e => hn (e ▸ hb))

/-- A heap variable is written. -/
theorem Tr.boxSet (hI : Inv P gt S G w) {id : Nat} {ty : TypeId} {cs cs' : List AV} {c c' : Array Value} {fr : Nat × Nat} {pre' rest : List Value} (h : lk S.boxes id = some (some (ty, cs))) (hw : w.heap[G.β id]? = some (.cells c ty fr))
    (hs : c'.size = c.size) (hc : c'.toList = pre' ++ rest) (hr : Rl S G w cs' pre') :
    Tr P gt S G w { S with boxes := (id, some (ty, cs')) :: S.boxes } G (wBlk w (G.β id) (.cells c' ty fr)) := by
  obtain ⟨hid, c0, fr0, sf0, pre0, rest0, hw0, hf0, _, _⟩ := hI.box id ty cs h
  rw [hw] at hw0
  cases hw0
  have hown : Own S G (G.β id) := .inl ⟨id, hid, rfl⟩
  have hext : Ext S G w { S with boxes := (id, some (ty, cs')) :: S.boxes } G (wBlk w (G.β id) (.cells c' ty fr)) :=
    Ext.blk hI hown hw hs rfl rfl rfl rfl rfl fun t ht hv e => absurd e (hI.boxTok id _ t h ht hv)
  have hlt := lt_of_some hw
  have hlk : ∀ i x, lk ((id, some (ty, cs')) :: S.boxes) i = some (some x) → ∃ y, lk S.boxes i = some (some y) := fun i x hh => by
    by_cases e : id = i
    · subst e; exact ⟨_, h⟩
    · rw [lk_ne _ _ e] at hh; exact ⟨_, hh⟩
  refine ⟨?_, hext, Keep.blk _ hown _⟩
  exact
    { boxLt := fun i hi => by rw [wBlk_size]; exact hI.boxLt i hi
      tokLt := fun i hi => by rw [wBlk_size]; exact hI.tokLt i hi
      mapLt := fun i hi => by rw [wBlk_size]; exact hI.mapLt i hi
      stLt := fun i hi => by rw [wBlk_size]; exact hI.stLt i hi
      stOwn := hI.stOwn
      box := fun i ty' cs'' hh => by
        by_cases e : id = i
        · subst e
          rw [lk_same] at hh; cases hh
          exact ⟨hid, c', fr, sf0, pre', rest, wBlk_same _ hlt, by rw [hs]; exact hf0, hc, hr.mono hext⟩
        · rw [lk_ne _ _ e] at hh
          obtain ⟨h1, c'', fr', sf, pre, rest, h2, h3, h4, h5⟩ := hI.box i ty' cs'' hh
          exact ⟨h1, c'', fr', sf, pre, rest, by rw [wBlk_ne _ (hI.boxInj i id _ _ hh h (Ne.symm e))]; exact h2, h3, h4, h5.mono hext⟩
      boxInj := fun i i' x x' hh hh' => by
        obtain ⟨y, hy⟩ := hlk i x hh
        obtain ⟨y', hy'⟩ := hlk i' x' hh'
        exact hI.boxInj i i' y y' hy hy'
      boxTok := fun i x t hh => by
        obtain ⟨y, hy⟩ := hlk i x hh
        exact hI.boxTok i y t hy
      map := fun i hi => by
        obtain ⟨es, ents, clk, h1, h2, h3⟩ := hI.map i hi
        refine ⟨es, ents, clk, h1, ?_, h3.mono hext⟩
        rw [wBlk_ne _ (fun e => ?_)]
        · exact h2
        · rw [e, hw] at h2; cases h2
      mapInj := hI.mapInj
      tip := fun t n ty' sf ht => by
        obtain ⟨h1, h2⟩ := hI.tip t n ty' sf ht
        refine ⟨h1, fun hv => ?_⟩
        obtain ⟨es, c'', fr', e1, e2, e3⟩ := h2 hv
        exact ⟨es, c'', fr', e1, by rw [wBlk_ne _ (hI.boxTok id _ t h h1 hv)]; exact e2, e3⟩
      tipInj := hI.tipInj
      line := hI.line
      lnLt := hI.lnLt
      kBox := fun i hi => by rw [lk_ne _ _ (by simp at hi; omega)]; exact hI.kBox i hi
      kMap := hI.kMap
      kMv := hI.kMv
      kTip := hI.kTip
      kDl := hI.kDl
      glob := fun g cs hgl => by
        obtain ⟨h1, c, ty, fr, h2, h3⟩ := hI.glob g cs hgl
        refine ⟨h1, c, ty, fr, ?_, h3.mono hext⟩
        rw [wBlk_ne _ (fun e => hI.stOwn g h1 (by rw [e]; exact hown))]; exact h2 }

/-- A map is written. -/
theorem Tr.mapSet (hI : Inv P gt S G w) {id : Nat} {es' : List (AV × AV)} {ents ents' : Array MapEntry} {clk clk' : Nat} (hid : id < S.nm) (hw : w.heap[G.μ id]? = some (.map ents clk))
    (hr : RlM S G w es' ents' clk') :
    Tr P gt S G w { S with maps := (id, es') :: S.maps } G (wBlk w (G.μ id) (.map ents' clk')) := by
  have hown : Own S G (G.μ id) := .inr (.inr ⟨id, hid, rfl⟩)
  have hlt := lt_of_some hw
  have hext : Ext S G w { S with maps := (id, es') :: S.maps } G (wBlk w (G.μ id) (.map ents' clk')) :=
    { (Ext.refl : Ext S G w S G w) with
      size := by rw [wBlk_size]; exact Nat.le_refl _
      own := fun _ _ h => h
      st := fun b' hb' => ⟨hb', wBlk_ne _ (fun e => hI.stOwn b' hb' (by rw [e]; exact hown))⟩
      shape := fun b' x hx => by
        by_cases e : b' = G.μ id
        · subst e; simp [World.shape?, hw] at hx
        · simpa only [World.shape?, wBlk_ne _ e] using hx
      sea := fun t ht _ _ => ⟨Nat.le_refl _, fun i _ => by
        by_cases e : G.τ t = G.μ id
        · simp only [World.cell?, e, wBlk_same _ hlt, hw]
        · simp only [World.cell?, wBlk_ne _ e]⟩
      moved := fun t b o _ h h' => by rw [h] at h'; cases h' }
  refine ⟨?_, hext, Keep.blk _ hown _⟩
  exact
    { boxLt := fun i hi => by rw [wBlk_size]; exact hI.boxLt i hi
      tokLt := fun i hi => by rw [wBlk_size]; exact hI.tokLt i hi
      mapLt := fun i hi => by rw [wBlk_size]; exact hI.mapLt i hi
      stLt := fun i hi => by rw [wBlk_size]; exact hI.stLt i hi
      stOwn := hI.stOwn
      box := fun i ty' cs'' hh => by
        obtain ⟨h1, c'', fr', sf, pre, rest, h2, h3, h4, h5⟩ := hI.box i ty' cs'' hh
        refine ⟨h1, c'', fr', sf, pre, rest, ?_, h3, h4, h5.mono hext⟩
        rw [wBlk_ne _ (fun e => ?_)]
        · exact h2
        · rw [e, hw] at h2; cases h2
      boxInj := hI.boxInj
      boxTok := hI.boxTok
      map := fun i hi => by
        by_cases e : id = i
        · subst e
          exact ⟨es', ents', clk', lk_same _ _ _, wBlk_same _ hlt, hr.mono hext⟩
        · obtain ⟨es, ents, clk, h1, h2, h3⟩ := hI.map i hi
          exact ⟨es, ents, clk, by rw [lk_ne _ _ e]; exact h1, by rw [wBlk_ne _ (hI.mapInj i id hi hid (Ne.symm e))]; exact h2, h3.mono hext⟩
      mapInj := hI.mapInj
      tip := fun t n ty' sf ht => by
        obtain ⟨h1, h2⟩ := hI.tip t n ty' sf ht
        refine ⟨h1, fun hv => ?_⟩
        obtain ⟨es, c'', fr', e1, e2, e3⟩ := h2 hv
        refine ⟨es, c'', fr', e1, ?_, e3⟩
        rw [wBlk_ne _ (fun e => ?_)]
        · exact e2
        · rw [e, hw] at e2; cases e2
      tipInj := hI.tipInj
      line := hI.line
      lnLt := hI.lnLt
      kBox := hI.kBox
      kMap := fun i hi => by rw [lk_ne _ _ (by simp at hi; omega)]; exact hI.kMap i hi
      kMv := hI.kMv
      kTip := hI.kTip
      kDl := hI.kDl
      glob := fun g cs hgl => by
        obtain ⟨h1, c, ty, fr, h2, h3⟩ := hI.glob g cs hgl
        refine ⟨h1, c, ty, fr, ?_, h3.mono hext⟩
        rw [wBlk_ne _ (fun e => hI.stOwn g h1 (by rw [e]; exact hown))]; exact h2 }

/-- A block's mark of what may not be written turns: nothing that is known hangs on it. -/
theorem Tr.mark (hI : Inv P gt S G w) {b : Nat} {c : Array Value} {ty : TypeId} {fr fr' : Nat × Nat} (hb : Own S G b) (h : w.heap[b]? = some (.cells c ty fr))
    (hbox : ∀ id x, lk S.boxes id = some (some x) → G.β id ≠ b) (htip : ∀ t x, lk S.tip t = some (some x) → Vld S G t → G.τ t ≠ b) : Tr P gt S G w S G (wBlk w b (.cells c ty fr')) := by
  have hext : Ext S G w S G (wBlk w b (.cells c ty fr')) := Ext.blk hI hb h rfl rfl rfl rfl rfl rfl fun _ _ _ _ _ _ => rfl
  refine ⟨?_, hext, Keep.blk _ hb _⟩
  exact
    { boxLt := fun i hi => by rw [wBlk_size]; exact hI.boxLt i hi
      tokLt := fun i hi => by rw [wBlk_size]; exact hI.tokLt i hi
      mapLt := fun i hi => by rw [wBlk_size]; exact hI.mapLt i hi
      stLt := fun i hi => by rw [wBlk_size]; exact hI.stLt i hi
      stOwn := hI.stOwn
      box := fun i ty' cs'' hh => by
        obtain ⟨h1, c'', fr', sf, pre, rest, h2, h3, h4, h5⟩ := hI.box i ty' cs'' hh
        exact ⟨h1, c'', fr', sf, pre, rest, by rw [wBlk_ne _ (hbox i _ hh)]; exact h2, h3, h4, h5.mono hext⟩
      boxInj := hI.boxInj
      boxTok := hI.boxTok
      map := fun i hi => by
        obtain ⟨es, ents, clk, h1, h2, h3⟩ := hI.map i hi
        refine ⟨es, ents, clk, h1, ?_, h3.mono hext⟩
        rw [wBlk_ne _ (fun e => ?_)]
        · exact h2
        · rw [e, h] at h2; cases h2
      mapInj := hI.mapInj
      tip := fun t n ty' sf ht => by
        obtain ⟨h1, h2⟩ := hI.tip t n ty' sf ht
        refine ⟨h1, fun hv => ?_⟩
        obtain ⟨es, c'', fr', e1, e2, e3⟩ := h2 hv
        exact ⟨es, c'', fr', e1, by rw [wBlk_ne _ (htip t _ ht hv)]; exact e2, e3⟩
      tipInj := hI.tipInj
      line := hI.line
      lnLt := hI.lnLt
      kBox := hI.kBox
      kMap := hI.kMap
      kMv := hI.kMv
      kTip := hI.kTip
      kDl := hI.kDl
      glob := fun g cs hgl => by
        obtain ⟨h1, c, ty, fr, h2, h3⟩ := hI.glob g cs hgl
        refine ⟨h1, c, ty, fr, ?_, h3.mono hext⟩
        rw [wBlk_ne _ (fun e => hI.stOwn g h1 (by rw [e]; exact hb))]; exact h2 }

/-- An append in place. -/
theorem Tr.inPlace (hI : Inv P gt S G w) {t m n es : Nat} {ty : TypeId} {sf : Bool} {c c' : Array Value} {fr : Nat × Nat} (h : lk S.tip t = some (some (m, ty, sf))) (hv : Vld S G t)
    (he : sizeP P ty = some es) (hw : w.heap[G.τ t]? = some (.cells c ty fr)) (hs : c'.size = c.size) (hmn : m ≤ n) (hn : n * es ≤ c.size) (hc : ∀ i, i < m * es → c'[i]? = c[i]?) :
    Tr P gt S G w { S with nt := S.nt + 1, tip := (S.nt, some (n, ty, sf)) :: (t, none) :: S.tip } { G with τ := upd G.τ S.nt (G.τ t), ln := upd G.ln S.nt (G.ln t), sz := upd G.sz (G.τ t) (n * es) } (wBlk w (G.τ t) (.cells c' ty fr)) := by
  obtain ⟨ht, h2⟩ := hI.tip t m ty sf h
  obtain ⟨es0, c0, fr0, e1, e2, e3, e4, e5⟩ := h2 hv
  rw [he] at e1; cases e1
  rw [hw] at e2; cases e2
  have hown : Own S G (G.τ t) := .inr (.inl ⟨t, ht, rfl⟩)
  have hτ : ∀ i, i < S.nt → upd G.τ S.nt (G.τ t) i = G.τ i := fun i hi => upd_ne _ _ (by omega)
  have hln : ∀ i, i < S.nt → upd G.ln S.nt (G.ln t) i = G.ln i := fun i hi => upd_ne _ _ (by omega)
  have hszle : ∀ b, G.sz b ≤ upd G.sz (G.τ t) (n * es) b := fun b => by
    by_cases e : b = G.τ t
    · subst e; rw [upd_same, e3]; exact Nat.mul_le_mul_right _ hmn
    · rw [upd_ne _ _ e]; exact Nat.le_refl _
  have hlt := lt_of_some hw
  have h0 : Ext S G w S G (wBlk w (G.τ t) (.cells c' ty fr)) := Ext.blk hI hown hw hs rfl rfl rfl rfl rfl fun t' ht' hv' e i hi => hc i (by rw [← e3]; exact hi)
  have hext : Ext S G w { S with nt := S.nt + 1, tip := (S.nt, some (n, ty, sf)) :: (t, none) :: S.tip } { G with τ := upd G.τ S.nt (G.τ t), ln := upd G.ln S.nt (G.ln t), sz := upd G.sz (G.τ t) (n * es) } (wBlk w (G.τ t) (.cells c' ty fr)) :=
    { h0 with
      nt := Nat.le_succ _
      τ := hτ
      ln := hln
      own := by
        rintro b hb (h | ⟨i, hi, he⟩ | h)
        · exact .inl h
        · by_cases e : i = S.nt
          · subst e; simp only [upd_same] at he; exact .inr (.inl ⟨t, ht, he⟩)
          · simp only [upd_ne _ _ e] at he; exact .inr (.inl ⟨i, by simp at hi; omega, he⟩)
        · exact .inr (.inr h)
      sea := fun i hi hm hd => ⟨hszle _, (h0.sea i hi hm hd).2⟩
      moved := fun t b o _ h h' => by rw [h] at h'; cases h' }
  have hvld : ∀ i, i < S.nt → Vld { S with nt := S.nt + 1, tip := (S.nt, some (n, ty, sf)) :: (t, none) :: S.tip } { G with τ := upd G.τ S.nt (G.τ t), ln := upd G.ln S.nt (G.ln t), sz := upd G.sz (G.τ t) (n * es) } i → Vld S G i := fun i hi h => by
    unfold Vld at h ⊢; simp only [hln i hi] at h; exact h
  have htl : ∀ i y, S.nt ≠ i → lk ((S.nt, some (n, ty, sf)) :: (t, none) :: S.tip) i = some (some y) → i ≠ t ∧ i < S.nt ∧ lk S.tip i = some (some y) := fun i y e hh => by
    rw [lk_ne _ _ e] at hh
    by_cases e' : t = i
    · subst e'; rw [lk_same] at hh; cases hh
    · rw [lk_ne _ _ e'] at hh
      exact ⟨Ne.symm e', (hI.tip i y.1 y.2.1 y.2.2 hh).1, hh⟩
  refine ⟨?_, hext, Keep.blk _ hown _⟩
  exact
    { boxLt := fun i hi => by rw [wBlk_size]; exact hI.boxLt i hi
      tokLt := fun i hi => by
        rw [wBlk_size]
        by_cases e : i = S.nt
        · subst e; simp only [upd_same]; exact hlt
        · simp only [upd_ne _ _ e]; exact hI.tokLt i (by simp at hi; omega)
      mapLt := fun i hi => by rw [wBlk_size]; exact hI.mapLt i hi
      stLt := fun i hi => by rw [wBlk_size]; exact hI.stLt i hi
      stOwn := fun b hb ho => hI.stOwn b hb (hext.own b (hI.stLt b hb) ho)
      box := fun i ty' cs'' hh => by
        obtain ⟨h1, c'', fr', sf', pre, rest, h2, h3, h4, h5⟩ := hI.box i ty' cs'' hh
        exact ⟨h1, c'', fr', sf', pre, rest, by rw [wBlk_ne _ (fun e => hI.boxTok i _ t hh ht hv e.symm)]; exact h2, h3, h4, h5.mono hext⟩
      boxInj := hI.boxInj
      boxTok := fun id x i h hi hv' => by
        by_cases e : i = S.nt
        · subst e; simp only [upd_same]; exact hI.boxTok id x t h ht hv
        · have hi2 : i < S.nt := by simp at hi; omega
          simp only [hτ i hi2]
          exact hI.boxTok id x i h hi2 (hvld i hi2 hv')
      map := fun i hi => by
        obtain ⟨es, ents, clk, h1, h2, h3⟩ := hI.map i hi
        refine ⟨es, ents, clk, h1, ?_, h3.mono hext⟩
        rw [wBlk_ne _ (fun e => ?_)]
        · exact h2
        · rw [show G.μ i = G.τ t from e, hw] at h2; cases h2
      mapInj := hI.mapInj
      tip := fun i n' ty' sf' hh => by
        by_cases e : S.nt = i
        · subst e
          rw [lk_same] at hh
          cases hh
          exact ⟨Nat.lt_succ_self _, fun _ => ⟨es, c', fr, he, by simp only [upd_same]; exact wBlk_same _ hlt, by simp only [upd_same], by rw [hs]; exact hn, by rw [hs]; exact e5⟩⟩
        · obtain ⟨hne, hi, hh'⟩ := htl i _ e hh
          obtain ⟨h1, h2⟩ := hI.tip i n' ty' sf' hh'
          refine ⟨Nat.lt_succ_of_lt h1, fun hv' => ?_⟩
          obtain ⟨es', c'', fr', e1', e2', e3', e4', e5'⟩ := h2 (hvld i h1 hv')
          have hd := hI.tipInj i t _ _ hh' h hne (hvld i h1 hv') hv
          refine ⟨es', c'', fr', e1', ?_, ?_, e4', e5'⟩
          · simp only [hτ i h1]; rw [wBlk_ne _ hd]; exact e2'
          · simp only [hτ i h1]; rw [upd_ne _ _ hd]; exact e3'
      tipInj := fun i i' x x' hh hh' hne hv1 hv2 => by
        by_cases e : S.nt = i
        · have e' : S.nt ≠ i' := fun q => hne (e.symm.trans q)
          obtain ⟨a, b, d⟩ := htl i' x' e' hh'
          subst e; simp only [upd_same, hτ i' b]
          exact hI.tipInj t i' _ _ h d (Ne.symm a) hv (hvld i' b hv2)
        · obtain ⟨a, b, d⟩ := htl i x e hh
          by_cases e' : S.nt = i'
          · subst e'; simp only [upd_same, hτ i b]
            exact hI.tipInj i t _ _ d h a (hvld i b hv1) hv
          · obtain ⟨a', b', d'⟩ := htl i' x' e' hh'
            simp only [hτ i b, hτ i' b']
            exact hI.tipInj i i' _ _ d d' hne (hvld i b hv1) (hvld i' b' hv2)
      line := fun i i' hi hi' hv1 hv2 heq => by
        by_cases e : i = S.nt
        · by_cases e' : i' = S.nt
          · subst e; subst e'; rfl
          · have b' : i' < S.nt := by simp at hi'; omega
            subst e
            simp only [upd_same, hτ i' b'] at heq
            simp only [upd_same, hln i' b']
            exact hI.line t i' ht b' hv (hvld i' b' hv2) heq
        · have b : i < S.nt := by simp at hi; omega
          by_cases e' : i' = S.nt
          · subst e'
            simp only [upd_same, hτ i b] at heq
            simp only [upd_same, hln i b]
            exact hI.line i t b ht (hvld i b hv1) hv heq
          · have b' : i' < S.nt := by simp at hi'; omega
            simp only [hτ i b, hτ i' b'] at heq
            simp only [hln i b, hln i' b']
            exact hI.line i i' b b' (hvld i b hv1) (hvld i' b' hv2) heq
      lnLt := fun i hi => by
        by_cases e : i = S.nt
        · subst e; simp only [upd_same]; have := hI.lnLt t ht; omega
        · simp only [upd_ne _ _ e]; have := hI.lnLt i (by simp at hi; omega); simp; omega
      kBox := hI.kBox
      kMap := hI.kMap
      kMv := fun i hi => hI.kMv i (by simp at hi; omega)
      kTip := fun i hi => by rw [lk_ne _ _ (by simp at hi; omega), lk_ne _ _ (by simp at hi; omega)]; exact hI.kTip i (by simp at hi; omega)
      kDl := fun i hi => hI.kDl i (by simp at hi; omega)
      glob := fun g cs hgl => by
        obtain ⟨h1, c, ty, fr, h2, h3⟩ := hI.glob g cs hgl
        refine ⟨h1, c, ty, fr, ?_, h3.mono hext⟩
        rw [wBlk_ne _ (fun e => hI.stOwn g h1 (by rw [e]; exact hown))]; exact h2 }

/-- A lineage becomes a variable. -/
theorem Tr.thaw (hI : Inv P gt S G w) {t l n : Nat} {ty : TypeId} {sf : Bool} {cs : List AV} {c : Array Value} {fr : Nat × Nat} {pre rest : List Value} (h : lk S.tip t = some (some (n, ty, sf))) (hv : Vld S G t) (hl : G.ln t = l)
    (hw : w.heap[G.τ t]? = some (.cells c ty fr)) (hc : c.toList = pre ++ rest) (hr : Rl S G w cs pre) :
    Tr P gt S G w { S with nb := S.nb + 1, boxes := (S.nb, some (ty, cs)) :: S.boxes, mv := (t, .bx S.nb 0) :: S.mv, dl := (l, ()) :: S.dl, tip := (t, none) :: S.tip } { G with β := upd G.β S.nb (G.τ t) } w := by
  obtain ⟨ht, h2⟩ := hI.tip t n ty sf h
  obtain ⟨es0, c0, fr0, e1, e2, e3, e4, e5⟩ := h2 hv
  rw [hw] at e2; cases e2
  have hβ : ∀ i, i < S.nb → upd G.β S.nb (G.τ t) i = G.β i := fun i hi => upd_ne _ _ (by omega)
  have hdl : ∀ i, lk ((l, ()) :: S.dl) i = none → l ≠ i ∧ lk S.dl i = none := fun i hh => by
    by_cases e : l = i
    · subst e; rw [lk_same] at hh; cases hh
    · rw [lk_ne _ _ e] at hh; exact ⟨e, hh⟩
  have hext : Ext S G w { S with nb := S.nb + 1, boxes := (S.nb, some (ty, cs)) :: S.boxes, mv := (t, .bx S.nb 0) :: S.mv, dl := (l, ()) :: S.dl, tip := (t, none) :: S.tip } { G with β := upd G.β S.nb (G.τ t) } w :=
    { (Ext.refl : Ext S G w S G w) with
      nb := Nat.le_succ _
      β := hβ
      own := by
        rintro b hb (⟨i, hi, he⟩ | h)
        · by_cases e : i = S.nb
          · subst e; simp only [upd_same] at he; exact .inr (.inl ⟨t, ht, he⟩)
          · simp only [upd_ne _ _ e] at he; exact .inl ⟨i, by simp at hi; omega, he⟩
        · exact .inr h
      mv := fun i m hi hm => by
        have : t ≠ i := fun e => by subst e; rw [hv.1] at hm; cases hm
        rw [lk_ne _ _ this]; exact hm
      dl := fun i hi => (hdl i hi).2
      sea := fun i hi _ _ => ⟨Nat.le_refl _, fun _ _ => rfl⟩
      moved := fun i b o hi hm hm' => by
        by_cases e : t = i
        · subst e
          rw [lk_same] at hm'
          cases hm'
          exact ⟨hv.2, by simp only [upd_same], Nat.lt_succ_self _, rfl⟩
        · rw [lk_ne _ _ e, hm] at hm'; cases hm' }
  have hvld : ∀ i, Vld { S with nb := S.nb + 1, boxes := (S.nb, some (ty, cs)) :: S.boxes, mv := (t, .bx S.nb 0) :: S.mv, dl := (l, ()) :: S.dl, tip := (t, none) :: S.tip } { G with β := upd G.β S.nb (G.τ t) } i → t ≠ i ∧ l ≠ G.ln i ∧ Vld S G i := fun i h => by
    unfold Vld at h ⊢
    have ne : t ≠ i := fun e => by subst e; rw [lk_same] at h; cases h.1
    rw [lk_ne _ _ ne] at h
    exact ⟨ne, (hdl _ h.2).1, h.1, (hdl _ h.2).2⟩
  have htl : ∀ i y, lk ((t, none) :: S.tip) i = some (some y) → lk S.tip i = some (some y) := fun i y hh => by
    by_cases e' : t = i
    · subst e'; rw [lk_same] at hh; cases hh
    · rw [lk_ne _ _ e'] at hh; exact hh
  refine ⟨?_, hext, fun b hb _ => rfl⟩
  exact
    { boxLt := fun i hi => by
        by_cases e : i = S.nb
        · subst e; simp only [upd_same]; exact hI.tokLt t ht
        · simp only [upd_ne _ _ e]; exact hI.boxLt i (by simp at hi; omega)
      tokLt := hI.tokLt
      mapLt := hI.mapLt
      stLt := hI.stLt
      stOwn := fun b hb ho => hI.stOwn b hb (hext.own b (hI.stLt b hb) ho)
      box := fun i ty' cs'' hh => by
        by_cases e : S.nb = i
        · subst e
          rw [lk_same] at hh; cases hh
          exact ⟨Nat.lt_succ_self _, c, fr, sf, pre, rest, by simp only [upd_same]; exact hw, e5, hc, hr.mono hext⟩
        · rw [lk_ne _ _ e] at hh
          obtain ⟨h1, c'', fr', sf', pre, rest, h2, h3, h4, h5⟩ := hI.box i ty' cs'' hh
          exact ⟨Nat.lt_succ_of_lt h1, c'', fr', sf', pre, rest, by simp only [hβ i h1]; exact h2, h3, h4, h5.mono hext⟩
      boxInj := fun i i' x x' hh hh' hne => by
        by_cases e : S.nb = i
        · have e' : S.nb ≠ i' := fun q => hne (e.symm.trans q)
          rw [lk_ne _ _ e'] at hh'
          subst e; simp only [upd_same, hβ i' (hI.box i' x'.1 x'.2 hh').1]
          exact hI.boxTok i' x' t hh' ht hv
        · rw [lk_ne _ _ e] at hh
          by_cases e' : S.nb = i'
          · subst e'; simp only [upd_same, hβ i (hI.box i x.1 x.2 hh).1]
            exact (hI.boxTok i x t hh ht hv).symm
          · rw [lk_ne _ _ e'] at hh'
            simp only [hβ i (hI.box i x.1 x.2 hh).1, hβ i' (hI.box i' x'.1 x'.2 hh').1]
            exact hI.boxInj i i' x x' hh hh' hne
      boxTok := fun id x i h hi hv' => by
        obtain ⟨a, b, d⟩ := hvld i hv'
        by_cases e : S.nb = id
        · subst e; simp only [upd_same]
          intro heq
          exact b (by rw [← hl]; exact hI.line t i ht hi hv d heq.symm)
        · rw [lk_ne _ _ e] at h
          simp only [hβ id (hI.box id x.1 x.2 h).1]
          exact hI.boxTok id x i h hi d
      map := fun i hi => by
        obtain ⟨es, ents, clk, h1, h2, h3⟩ := hI.map i hi
        exact ⟨es, ents, clk, h1, h2, h3.mono hext⟩
      mapInj := hI.mapInj
      tip := fun i n' ty' sf' hh => by
        obtain ⟨h1, h2⟩ := hI.tip i n' ty' sf' (htl i _ hh)
        exact ⟨h1, fun hv' => h2 (hvld i hv').2.2⟩
      tipInj := fun i i' x x' hh hh' hne hv1 hv2 => hI.tipInj i i' x x' (htl i _ hh) (htl i' _ hh') hne (hvld i hv1).2.2 (hvld i' hv2).2.2
      line := fun i i' hi hi' hv1 hv2 heq => hI.line i i' hi hi' (hvld i hv1).2.2 (hvld i' hv2).2.2 heq
      lnLt := hI.lnLt
      kBox := fun i hi => by rw [lk_ne _ _ (by simp at hi; omega)]; exact hI.kBox i (by simp at hi; omega)
      kMap := hI.kMap
      kMv := fun i hi => by rw [lk_ne _ _ (by simp at hi; omega)]; exact hI.kMv i hi
      kTip := fun i hi => by rw [lk_ne _ _ (by simp at hi; omega)]; exact hI.kTip i hi
      kDl := fun i hi => by
        have := hI.lnLt t ht
        rw [lk_ne _ _ (by simp at hi; omega)]; exact hI.kDl i hi
      glob := fun g cs hgl => by
        obtain ⟨h1, c, ty, fr, h2, h3⟩ := hI.glob g cs hgl
        exact ⟨h1, c, ty, fr, h2, h3.mono hext⟩ }
end
end Go.Dn
