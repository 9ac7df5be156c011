/- One operation: the whole table. -/
import Derived.Test.YtinhgnepnkbpcaaGreatDoorDnQi
set_option linter.unusedSimpArgs false
set_option linter.unusedVariables false
namespace Go.Dn
open Go Go.RowKit

section
variable {P : Program} {gt : GT} {O : Orig} {S : St} {G : Gh} {w : World} {env env' : Env} {a : Act} {S' : St} {o : Oper}

def HasBody (P : Program) (f : FuncId) : Prop := ∃ fn, P.funcs[f]? = some fn ∧ (fn.name == "runtime.NumGoroutine") = false ∧ fn.body.isNone = false

def StepOK (P : Program) (gt : GT) (O : Orig) (o : Oper) (w : World) (a : Act) (S : St) (G : Gh) : SR → Prop
  | .fail => True
  | .done env' S' => OpOK P gt O o w a env' S'
  | .call f xs => HasBody P f → ∃ args, (execOp a.eval o).run P w = .ok (.enter f ⟨args⟩) w ∧ Rl S G w xs args
  | .pan v => ∃ u, (execOp a.eval o).run P w = .halt (.panic u) w ∧ Rv S G w v u

def isCallD : DOp → Bool
  | .call .. | .callv .. | .inv .. | .pnc _ => true
  | _ => false

def plainR : SR → Prop
  | .fail => True
  | .done _ _ => True
  | _ => False

theorem plain_val (dst : Option Nat) (x : Option AV) : plainR (SR.val dst env S x) := by
  cases x <;> trivial

theorem stepO_plain (dst : Option Nat) {op : DOp} (h : isCallD op = false) : plainR (stepO gt dst env S op) := by
  have hb : ∀ (b : Bool) (x y : SR), plainR x → plainR y → plainR (bif b then x else y) := fun b x y hx hy => by cases b <;> assumption
  cases op <;> first | (cases h; done) | skip
  all_goals simp only [stepO]
  all_goals repeat' first | exact plain_val _ _ | exact trivial | apply hb | split

theorem StepOK.of {op : DOp} (hp : plainR (stepO gt o.dst env S op)) (h : ∀ env' S', stepO gt o.dst env S op = .done env' S' → OpOK P gt O o w a env' S') : StepOK P gt O o w a S G (stepO gt o.dst env S op) := by
  cases hs : stepO gt o.dst env S op with
  | fail => trivial
  | done env' S' => exact h env' S' hs
  | call f xs => rw [hs] at hp; exact hp.elim
  | pan v => rw [hs] at hp; exact hp.elim

/-! ### doors -/

theorem cmpB_eq : ∀ (a b : List UInt8), cmpB a b = Lib.compareBytes a b
  | [], [] => rfl
  | [], _ :: _ => rfl
  | _ :: _, [] => rfl
  | x :: a, y :: b => by
    simp only [cmpB, Lib.compareBytes]
    by_cases h : x = y
    · subst h
      have : ¬ x < x := UInt8.lt_irrefl x
      simp [this, cmpB_eq a b]
    · have hne : Nat.beq x.toNat y.toNat = false := by
        cases hb : Nat.beq x.toNat y.toNat
        · rfl
        · exact absurd (UInt8.toNat_inj.1 (Nat.eq_of_beq_eq_true hb)) h
      rw [hne]
      by_cases hl : x < y
      · have : Nat.blt x.toNat y.toNat = true := by
          show Nat.ble (x.toNat + 1) y.toNat = true
          exact Nat.ble_eq_true_of_le hl
        simp [this, hl]
      · have hl2 : y < x := UInt8.lt_of_le_of_ne (UInt8.not_lt.1 hl) (Ne.symm h)
        have : Nat.blt x.toNat y.toNat = false := by
          cases hb : Nat.blt x.toNat y.toNat
          · rfl
          · exact absurd (blt_lt hb) hl
        simp [this, hl, hl2]

theorem idxB_eq (c : UInt8) : ∀ (l : List UInt8) (i : Nat), (Lib.indexByte l c = -1 → idxB c l i = -1) ∧ (Lib.indexByte l c ≠ -1 → idxB c l i = Lib.indexByte l c + i)
  | [], i => ⟨fun _ => rfl, fun h => absurd rfl h⟩
  | x :: l, i => by
    by_cases h : x = c
    · subst h
      have h1 : Lib.indexByte (x :: l) x = 0 := by simp [Lib.indexByte]
      have h2 : idxB x (x :: l) i = i := by simp [idxB]
      rw [h1, h2]
      exact ⟨fun h => (by cases h), fun _ => (by omega)⟩
    · have hne : Nat.beq x.toNat c.toNat = false := by
        cases hb : Nat.beq x.toNat c.toNat
        · rfl
        · exact absurd (UInt8.toNat_inj.1 (Nat.eq_of_beq_eq_true hb)) h
      have h2 : (x == c) = false := by simpa using h
      have hge := Lib.indexByte_ge l c
      obtain ⟨g1, g2⟩ := idxB_eq c l (i + 1)
      have e1 : idxB c (x :: l) i = idxB c l (i + 1) := by simp [idxB, hne]
      rw [e1]
      by_cases h3 : Lib.indexByte l c = -1
      · have e2 : Lib.indexByte (x :: l) c = -1 := by simp [Lib.indexByte, h2, h3]
        rw [e2, g1 h3]
        exact ⟨fun _ => rfl, fun h => absurd rfl h⟩
      · have e2 : Lib.indexByte (x :: l) c = Lib.indexByte l c + 1 := by simp [Lib.indexByte, h2, h3]
        rw [e2, g2 h3]
        exact ⟨fun h => (by omega), fun _ => (by push_cast; omega)⟩

theorem idxB_eq0 (c : UInt8) (l : List UInt8) : idxB c l 0 = Lib.indexByte l c := by
  obtain ⟨g1, g2⟩ := idxB_eq c l 0
  by_cases h : Lib.indexByte l c = -1
  · rw [g1 h, h]
  · rw [g2 h]; simp

def extE : ExtK → Array Value → Sem Value
  | .indexByte => Extern.BytealgIndexByte.indexByte
  | .compare => Extern.BytealgCompare.compare
  | .noEscape => Extern.AbiNoEscape.same

theorem noNext (n : String) (h : (Extern.allNextRows.lookup n).isNone = true) (h0 : (Extern.allNextRows.lookup "").isNone = true) {fn : Func} (hn : fn.name = n) (ho : fn.origin = "") : Extern.findNext fn = none := by
  unfold Extern.findNext
  rw [Option.isNone_iff_eq_none] at h h0
  simp only [hn, ho, h, h0]
  rfl

theorem noNext0 : (Extern.allNextRows.lookup "").isNone = true := by kernel_rfl
theorem noNext1 : (Extern.allNextRows.lookup "internal/bytealg.IndexByteString").isNone = true := by kernel_rfl
theorem noNext2 : (Extern.allNextRows.lookup "internal/bytealg.abigen_runtime_cmpstring").isNone = true := by kernel_rfl
theorem noNext3 : (Extern.allNextRows.lookup "internal/abi.NoEscape").isNone = true := by kernel_rfl

theorem find_by (n : String) {e : Array Value → Sem Value} (h1 : (Extern.allGenericRows.lookup n).isNone = true) (h2 : (Extern.allTypedRows.lookup n).isNone = true) (h3 : Extern.allRows.lookup n = some e) {fn : Func} (hn : fn.name = n) : Extern.find fn = some e := by
  unfold Extern.find
  rw [Option.isNone_iff_eq_none] at h1 h2
  simp only [hn, h1, h2, h3]
  rfl

theorem f1a : (Extern.allGenericRows.lookup "internal/bytealg.IndexByteString").isNone = true := by kernel_rfl
theorem f1b : (Extern.allTypedRows.lookup "internal/bytealg.IndexByteString").isNone = true := by kernel_rfl
theorem f1c : Extern.allRows.lookup "internal/bytealg.IndexByteString" = some Extern.BytealgIndexByte.indexByte := by kernel_rfl
theorem f2a : (Extern.allGenericRows.lookup "internal/bytealg.abigen_runtime_cmpstring").isNone = true := by kernel_rfl
theorem f2b : (Extern.allTypedRows.lookup "internal/bytealg.abigen_runtime_cmpstring").isNone = true := by kernel_rfl
theorem f2c : Extern.allRows.lookup "internal/bytealg.abigen_runtime_cmpstring" = some Extern.BytealgCompare.compare := by kernel_rfl
theorem f3a : (Extern.allGenericRows.lookup "internal/abi.NoEscape").isNone = true := by kernel_rfl
theorem f3b : (Extern.allTypedRows.lookup "internal/abi.NoEscape").isNone = true := by kernel_rfl
theorem f3c : Extern.allRows.lookup "internal/abi.NoEscape" = some Extern.AbiNoEscape.same := by kernel_rfl

theorem extP_sound {f : FuncId} {e : ExtK} (h : extP P f = some (some e)) : ∃ fn, P.funcs[f]? = some fn ∧ (fn.name == "runtime.NumGoroutine") = false ∧ fn.body.isNone = true ∧ Extern.findNext fn = none ∧ Extern.find fn = some (extE e) := by
  unfold extP at h
  split at h
  · rename_i fn hfn
    split at h
    · cases h
    · rename_i hng
      split at h
      · simp at h
      · rename_i hb
        split at h
        · rename_i ho
          have ho : fn.origin = "" := by simpa using ho
          refine ⟨fn, hfn, by simpa using hng, by simpa using hb, ?_⟩
          split at h
          · rename_i hn
            have hn : fn.name = "internal/bytealg.IndexByteString" := by simpa using hn
            simp only [Option.some.injEq] at h; subst h
            exact ⟨noNext _ noNext1 noNext0 hn ho, find_by _ f1a f1b f1c hn⟩
          · split at h
            · rename_i hn
              have hn : fn.name = "internal/bytealg.abigen_runtime_cmpstring" := by simpa using hn
              simp only [Option.some.injEq] at h; subst h
              exact ⟨noNext _ noNext2 noNext0 hn ho, find_by _ f2a f2b f2c hn⟩
            · split at h
              · rename_i hn
                have hn : fn.name = "internal/abi.NoEscape" := by simpa using hn
                simp only [Option.some.injEq] at h; subst h
                exact ⟨noNext _ noNext3 noNext0 hn ho, find_by _ f3a f3b f3c hn⟩
              · cases h
        · cases h
  · cases h

theorem so_xtn (h : Good P gt O S G w env a) (hd : ∀ d, o.dst = some d → O.N.ok d) {c : Call} {f : FuncId} {e : ExtK} {ts : List TypeId} {dxs : List DOpd} (hop : o.op = .call c) (hc : c.callee = .value (.func f)) (he : extP P f = some (some e)) (hx : opdsP P ts c.args.toList = some dxs)
    (hs : stepO gt o.dst env S (.xtn e dxs) = .done env' S') : OpOK P gt O o w a env' S' := by
  obtain ⟨fb, hf⟩ := h.fr
  simp only [stepO] at hs
  split at hs
  · rename_i vs hvs
    have rx := opds_sound hf hx hvs
    obtain ⟨fn, k1, k2, k3, k4, k5⟩ := extP_sound he
    refine ok_val' h hd hs fun y hy => ?_
    have hrun : ∀ {v : Value}, (extE e (c.args.map a.eval)).run P w = .ok v w → (execOp a.eval o).run P w = .ok (.value v) w := fun {v} hq => by
      have hres : (resolve a.eval c o.type).run P w = .ok { target := .fn (.func f) #[], args := c.args.map a.eval } w := by
        simp [resolve, hc, Deferred.ofValue, Act.eval]
      simp only [execOp, hop, Sem.run_bind, hres, Result.andThen_ok, invoke, Array.append_empty]
      have k2' : ¬ fn.name = "runtime.NumGoroutine" := by simpa using k2
      have k3' : fn.body = none := by simpa using k3
      have hm : Sem.run P (Sem.mark (.extern f) (Sem.pure ())) w = .ok () w := rfl
      simp [callFunc, k1, k2', k3', k4, k5, hq, mark, hm]
    have hargs : c.args.map a.eval = ⟨c.args.toList.map a.eval⟩ := by
      apply Array.ext'; simp
    rw [hargs] at hrun
    unfold xtnV at hy
    split at hy
    · rename_i s b
      simp only [Option.some.injEq] at hy; subst hy
      simp only [Rl] at rx
      obtain ⟨v1, r1, q1, p1, v2, r2, q2, p2, q3⟩ := rx
      simp only [Rv] at p1 p2
      subst q3; subst q2; subst p1; subst p2
      refine ⟨.int .i64 (idxB (UInt8.ofNat b.toNat) s 0), by simp only [Rv], hrun ?_⟩
      rw [q1]
      have := Lib.run_indexByteString (P := P) ⟨⟨s⟩⟩ b w
      rw [idxB_eq0]
      exact this
    · rename_i x y
      simp only [Option.some.injEq] at hy; subst hy
      simp only [Rl] at rx
      obtain ⟨v1, r1, q1, p1, v2, r2, q2, p2, q3⟩ := rx
      simp only [Rv] at p1 p2
      subst q3; subst q2; subst p1; subst p2
      refine ⟨.int .i64 (cmpB x y), by simp only [Rv], hrun ?_⟩
      rw [q1]
      have := Lib.run_compareString (P := P) ⟨⟨x⟩⟩ ⟨⟨y⟩⟩ w
      rw [cmpB_eq]
      exact this
    · rename_i x
      simp only [Option.some.injEq] at hy; subst hy
      simp only [Rl] at rx
      obtain ⟨v1, r1, q1, p1, q3⟩ := rx
      subst q3
      refine ⟨_, p1, hrun ?_⟩
      rw [q1]
      rfl
    · cases hy
  · cases hs
end
end Go.Dn
