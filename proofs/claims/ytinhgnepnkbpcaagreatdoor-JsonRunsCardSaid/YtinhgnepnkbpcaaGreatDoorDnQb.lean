/- One operation, third part: arithmetic, comparing, conversions that touch no memory, lengths. -/
import Derived.Test.YtinhgnepnkbpcaaGreatDoorDnQa
import Derived.Laws.StructEq
set_option linter.unusedSimpArgs false
set_option linter.unusedVariables false
namespace Go.Dn
open Go Go.RowKit

section
variable {P : Program} {gt : GT} {O : Orig} {S : St} {G : Gh} {w : World} {env env' : Env} {a : Act} {S' : St} {o : Oper}

theorem beqB_eq : ∀ (x y : List UInt8), beqB x y = (x == y)
  | [], [] => rfl
  | [], _ :: _ => rfl
  | _ :: _, [] => rfl
  | a :: x, b :: y => by
    simp only [beqB, List.cons_beq_cons]
    by_cases h : a = b
    · subst h; simp [beqB_eq x y]
    · have h' : a.toNat ≠ b.toNat := fun e => h (UInt8.toNat_inj.1 e)
      have : Nat.beq a.toNat b.toNat = false := by
        cases hb : Nat.beq a.toNat b.toNat
        · rfl
        · exact absurd (Nat.eq_of_beq_eq_true hb) h'
      simp [this, h]

theorem ltB_eq : ∀ (x y : List UInt8), ltB x y = Op.bytesLess x y
  | [], [] => rfl
  | [], _ :: _ => rfl
  | _ :: _, [] => rfl
  | a :: x, b :: y => by
    simp only [ltB, Op.bytesLess]
    by_cases h : a < b
    · have : Nat.blt a.toNat b.toNat = true := Nat.ble_eq_true_of_le (UInt8.lt_iff_toNat_lt.1 h)
      simp [this, h]
    · have h1 : Nat.blt a.toNat b.toNat = false := by
        cases hb : Nat.blt a.toNat b.toNat
        · rfl
        · exact absurd (UInt8.lt_iff_toNat_lt.2 (blt_lt hb)) h
      by_cases h2 : a = b
      · subst h2; simp [h1, ltB_eq x y]
      · have h' : a.toNat ≠ b.toNat := fun e => h2 (UInt8.toNat_inj.1 e)
        have : Nat.beq a.toNat b.toNat = false := by
          cases hb : Nat.beq a.toNat b.toNat
          · rfl
          · exact absurd (Nat.eq_of_beq_eq_true hb) h'
        simp [h1, this, h, h2]

theorem mapM_some_cons {α β : Type} {f : α → Option β} {x : α} {l : List α} {r : List β} (h : (x :: l).mapM f = some r) : ∃ y r', f x = some y ∧ l.mapM f = some r' ∧ r = y :: r' := by
  rw [List.mapM_cons] at h
  cases hx : f x with
  | none => rw [hx] at h; cases h
  | some y =>
    rw [hx] at h
    cases hl : l.mapM f with
    | none => rw [hl] at h; cases h
    | some r' => rw [hl] at h; cases h; exact ⟨y, r', rfl, rfl, rfl⟩

theorem mapM_some_nil {α β : Type} {f : α → Option β} {r : List β} (h : ([] : List α).mapM f = some r) : r = [] := by
  simp at h; exact h

set_option maxHeartbeats 1000000 in
theorem eqv_sound (w : World) : ∀ (d : Nat) {t : TypeId} {ek : EqK} {x y : AV} {u v : Value} {b : Bool}, eqkP P d t = some ek → eqv ek x y = some b → Rv S G w x u → Rv S G w y v → ∀ n, d ≤ n → (Op.equalIn n t u v).run P w = .ok b w
  | 0, t, ek, x, y, u, v, b, he, _, _, _, n, _ => by simp [eqkP] at he
  | d + 1, t, ek, x, y, u, v, b, he, hb, hx, hy, n, hn => by
    obtain ⟨n, rfl⟩ : ∃ m, n = m + 1 := ⟨n - 1, by omega⟩
    simp only [eqkP] at he
    split at he
    · rename_i hu
      cases he
      simp only [eqv, eqBool] at hb
      split at hb <;> cases hb
      simp only [Rv] at hx hy; subst hx; subst hy
      simp [Op.equalIn, run_underlying hu]
    · rename_i k hu
      cases he
      simp only [eqv, eqInt] at hb
      split at hb <;> first | (cases hb; done) | skip
      rename_i k1 a1 k2 a2
      split at hb
      · rename_i hkk
        cases hb
        simp only [Rv] at hx hy; subst hx; subst hy
        simp [Op.equalIn, run_underlying hu, hkk]
      · cases hb
    · rename_i hu
      cases he
      simp only [eqv, eqStr] at hb
      split at hb <;> first | (cases hb; done) | skip
      rename_i s1 s2
      cases hb
      simp only [Rv] at hx hy; subst hx; subst hy
      have : ((⟨⟨s1⟩⟩ : ByteArray) == ⟨⟨s2⟩⟩) = beqB s1 s2 := by
        rw [beq_toListBytes, ByteArray.toList_eq, ByteArray.toList_eq, beqB_eq]
      simp [Op.equalIn, run_underlying hu, this]
    · rename_i e hu
      split at he
      · rename_i k hsz
        cases he
        simp only [eqv, eqPtr] at hb
        split at hb <;> first | (cases hb; done) | skip
        · cases hb
          simp only [Rv] at hx hy; subst hx; subst hy
          simp [Op.equalIn, run_underlying hu]
        · cases hb
          simp only [Rv] at hx hy; subst hx; obtain ⟨_, rfl⟩ := hy
          simp [Op.equalIn, run_underlying hu]
        · cases hb
          simp only [Rv] at hx hy; obtain ⟨_, rfl⟩ := hx; subst hy
          simp [Op.equalIn, run_underlying hu]
        · cases hb
          simp only [Rv] at hx hy; subst hx; obtain ⟨_, _, _, _, _, _, rfl⟩ := hy
          simp [Op.equalIn, run_underlying hu]
        · cases hb
          simp only [Rv] at hx hy; obtain ⟨_, _, _, _, _, _, rfl⟩ := hx; subst hy
          simp [Op.equalIn, run_underlying hu]
        · rename_i i1 o1 i2 o2
          cases hi : Nat.beq i1 i2 with
          | false => rw [hi] at hb; cases hb
          | true =>
            rw [hi] at hb
            simp only [cond_true, Option.some.injEq] at hb
            have hi := Nat.eq_of_beq_eq_true hi
            subst hi
            simp only [Rv] at hx hy; obtain ⟨_, rfl⟩ := hx; obtain ⟨_, rfl⟩ := hy
            have : ((⟨G.β i1, o1, none⟩ : Addr) == ⟨G.β i1, o2, none⟩) = b := by
              rw [← hb]
              by_cases e : o1 = o2
              · subst e; simp
              · have h1 : Nat.beq o1 o2 = false := by
                  cases hq : Nat.beq o1 o2
                  · rfl
                  · exact absurd (Nat.eq_of_beq_eq_true hq) e
                rw [h1]
                simp [e]
            simp [Op.equalIn, run_underlying hu, run_sizeP hsz, sameAddr, this]
      · cases he
    · rename_i e hu
      cases he
      simp only [eqv, eqSl] at hb
      split at hb <;> first | (cases hb; done) | skip
      rename_i e1 o1 x1 e2 o2 x2
      simp only [Rv] at hx hy
      obtain ⟨a1, l1, c1, rfl, h1, _⟩ := hx
      obtain ⟨a2, l2, c2, rfl, h2, _⟩ := hy
      have n1 := h1.2.2.1
      have n2 := h2.2.2.1
      cases hq : o1.isNil with
      | true =>
        rw [hq] at hb n1
        simp only [cond_true, Option.some.injEq] at hb
        have : a1 = none := n1.2 rfl
        subst this
        have : a2.isNone = b := by
          rw [← hb]
          cases a2 with
          | none => simp [n2.1 rfl]
          | some p => cases h3 : o2.isNil with
            | true => have := n2.2 h3; cases this
            | false => rfl
        simp [Op.equalIn, run_underlying hu, this]
      | false =>
        rw [hq] at hb n1
        simp only [cond_false] at hb
        cases hq2 : o2.isNil with
        | false => rw [hq2] at hb; cases hb
        | true =>
          rw [hq2] at hb n2
          simp only [cond_true, Option.some.injEq] at hb
          have e2 : a2 = none := n2.2 rfl
          subst e2
          cases a1 with
          | none => have := n1.1 rfl; cases this
          | some p => simp [Op.equalIn, run_underlying hu, ← hb]
    · rename_i ms hu
      cases he
      simp only [eqv, eqIfc] at hb
      split at hb <;> first | (cases hb; done) | skip
      · cases hb
        simp only [Rv] at hx hy; subst hx; subst hy
        simp [Op.equalIn, run_underlying hu]
      · cases hb
        simp only [Rv] at hx hy; obtain ⟨u', rfl, _⟩ := hy; subst hx
        simp [Op.equalIn, run_underlying hu]
      · cases hb
        simp only [Rv] at hx hy; obtain ⟨u', rfl, _⟩ := hx; subst hy
        simp [Op.equalIn, run_underlying hu]
    · rename_i hu
      cases he
      simp only [eqv, eqFn] at hb
      split at hb <;> first | (cases hb; done) | skip
      · cases hb
        simp only [Rv] at hx hy; subst hx; subst hy
        simp [Op.equalIn, run_underlying hu]
      · cases hb
        simp only [Rv] at hx hy; obtain ⟨u1, u2, rfl, _⟩ := hy; subst hx
        simp [Op.equalIn, run_underlying hu]
      · cases hb
        simp only [Rv] at hx hy; obtain ⟨u1, u2, rfl, _⟩ := hx; subst hy
        simp [Op.equalIn, run_underlying hu]
    · rename_i k e hu
      cases he
      simp only [eqv, eqMap] at hb
      split at hb <;> first | (cases hb; done) | skip
      · cases hb
        simp only [Rv] at hx hy; subst hx; subst hy
        simp [Op.equalIn, run_underlying hu]
      · cases hb
        simp only [Rv] at hx hy; subst hx; obtain ⟨_, rfl⟩ := hy
        simp [Op.equalIn, run_underlying hu]
      · cases hb
        simp only [Rv] at hx hy; obtain ⟨_, rfl⟩ := hx; subst hy
        simp [Op.equalIn, run_underlying hu]
    · rename_i fs hu
      split at he
      · cases he
      · rename_i hst
        obtain ⟨ks, hm, rfl⟩ := Option.map_eq_some_iff.1 he
        · skip
          clear he
          simp only [eqv] at hb
          cases hag : aggs x y with
          | none => rw [hag] at hb; cases hb
          | some p =>
          rw [hag] at hb
          unfold aggs at hag
          split at hag <;> first | (cases hag; done) | skip
          rename_i c1 c2
          cases hag
          simp only at hb
          simp only [Rv] at hx hy
          obtain ⟨v1, rfl, r1⟩ := hx
          obtain ⟨v2, rfl, r2⟩ := hy
          have hff : P.fieldsOf t = fs := by simp [Program.fieldsOf, hu]
          have hu' : P.underlying t = some (.struct (P.fieldsOf t)) := by rw [hff]; exact hu
          rw [run_equalIn_struct w n t _ _ hu' (by simpa using hst), hff]
          clear hu hu' hff hst
          generalize fs.toList = l at hm
          induction l generalizing ks with
          | nil =>
            have := mapM_some_nil hm
            subst this
            simp only [eqvs, Option.some.injEq] at hb
            subst hb
            simp [Op.eqFields]
          | cons f l ih =>
            obtain ⟨k, ks', h1, h2, rfl⟩ := mapM_some_cons hm
            split at h1
            · cases h1
            · rename_i hname
              split at h1
              · rename_i hagg
                cases hk : eqkP P d f.type with
                | none => rw [hk] at h1; cases h1
                | some ek =>
                  rw [hk] at h1
                  simp only [Option.map_some, Option.some.injEq] at h1
                  subst h1
                  simp only [eqvs] at hb
                  split at hb
                  · rename_i x y hx hy
                    obtain ⟨u, hu1, hu2⟩ := r1.get hx
                    obtain ⟨v, hv1, hv2⟩ := r2.get hy
                    have p1 : (part f.type ⟨v1⟩ f.offset).run P w = .ok u w := by simp [part, run_isAgg hagg, hu1]
                    have p2 : (part f.type ⟨v2⟩ f.offset).run P w = .ok v w := by simp [part, run_isAgg hagg, hv1]
                    simp only [Op.eqFields, ne_eq, hname, not_false_eq_true, if_true, Sem.run_bind, p1, p2, Result.andThen_ok]
                    split at hb
                    · rename_i hq
                      rw [eqv_sound w d hk hq hu2 hv2 n (by omega)]
                      simp only [Result.andThen_ok, Bool.not_true, Bool.false_eq_true, if_false]
                      exact ih ks' hb h2
                    · rename_i hq
                      cases hb
                      rw [eqv_sound w d hk hq hu2 hv2 n (by omega)]
                      simp
                    · cases hb
                  · cases hb
              · cases h1
    · rename_i len e hu
      split at he
      · rename_i hagg hsz
        obtain ⟨k, hk, rfl⟩ := Option.map_eq_some_iff.1 he
        clear he
        simp only [eqv] at hb
        cases hag : aggs x y with
        | none => rw [hag] at hb; cases hb
        | some p =>
          rw [hag] at hb
          unfold aggs at hag
          split at hag <;> first | (cases hag; done) | skip
          rename_i c1 c2
          cases hag
          simp only at hb
          simp only [Rv] at hx hy
          obtain ⟨v1, rfl, r1⟩ := hx
          obtain ⟨v2, rfl, r2⟩ := hy
          simp only [Op.equalIn, Sem.run_bind, run_underlying hu, Result.andThen_ok, run_sizeP hsz, Nat.mul_one]
          simp only [Std.Legacy.Range.forIn_eq_forIn_range', Std.Legacy.Range.size, Nat.sub_zero, Nat.add_one_sub_one, Nat.div_one]
          rw [List.range_eq_range'] at hb
          generalize List.range' 0 len = l at hb ⊢
          induction l with
          | nil =>
            simp only [List.map_nil, eqvs, Option.some.injEq] at hb
            subst hb
            simp
          | cons i l ih =>
            simp only [List.map_cons, eqvs] at hb
            split at hb
            · rename_i x y hx hy
              obtain ⟨u, hu1, hu2⟩ := r1.get hx
              obtain ⟨v, hv1, hv2⟩ := r2.get hy
              have p1 : (part e ⟨v1⟩ i).run P w = .ok u w := by simp [part, run_isAgg hagg, hu1]
              have p2 : (part e ⟨v2⟩ i).run P w = .ok v w := by simp [part, run_isAgg hagg, hv1]
              simp only [List.forIn_cons, Sem.run_bind, p1, p2, Result.andThen_ok]
              split at hb
              · rename_i hq
                rw [eqv_sound w d hk hq hu2 hv2 n (by omega)]
                simp only [Result.andThen_ok, Bool.not_true, Bool.false_eq_true, if_false, Sem.run_pure]
                exact ih hb
              · rename_i hq
                cases hb
                rw [eqv_sound w d hk hq hu2 hv2 n (by omega)]
                simp
              · cases hb
            · cases hb
      · cases he
    · cases he

theorem binI_sound {op : BinOp} {k : IntKind} {x y : Int} {z : AV} (h : binI op k x y = some z) {t : TypeId} : ∃ v, Rv S G w z v ∧ (binOp op t (.int k x) (.int k y)).run P w = .ok v w := by
  cases op <;> simp only [binI] at h
  case add => cases h; exact ⟨.int k (wr k (x + y)), by simp only [Rv], by simp [binOp, Op.intArith, wr_eq]⟩
  case sub => cases h; exact ⟨.int k (wr k (x - y)), by simp only [Rv], by simp [binOp, Op.intArith, wr_eq]⟩
  case mul => cases h; exact ⟨.int k (wr k (x * y)), by simp only [Rv], by simp [binOp, Op.intArith, wr_eq]⟩
  case quo =>
    cases hb : (y == 0) with
    | true => rw [hb] at h; cases h
    | false =>
      rw [hb] at h
      cases h
      have hy : y ≠ 0 := by simpa using hb
      exact ⟨.int k (wr k (x.tdiv y)), by simp only [Rv], by simp [binOp, Op.intDiv, hy, wr_eq]⟩
  case rem =>
    cases hb : (y == 0) with
    | true => rw [hb] at h; cases h
    | false =>
      rw [hb] at h
      cases h
      have hy : y ≠ 0 := by simpa using hb
      exact ⟨.int k (x.tmod y), by simp only [Rv], by simp [binOp, Op.intDiv, hy]⟩
  case and => cases h; exact ⟨_, by simp only [Rv]; rfl, by simp only [binOp, Op.intBits, ne_eq, not_true_eq_false, if_false, Sem.run_pure]⟩
  case or => cases h; exact ⟨_, by simp only [Rv]; rfl, by simp only [binOp, Op.intBits, ne_eq, not_true_eq_false, if_false, Sem.run_pure]⟩
  case xor => cases h; exact ⟨_, by simp only [Rv]; rfl, by simp only [binOp, Op.intBits, ne_eq, not_true_eq_false, if_false, Sem.run_pure]⟩
  case andNot => cases h; exact ⟨_, by simp only [Rv]; rfl, by simp only [binOp, Op.intBits, ne_eq, not_true_eq_false, if_false, Sem.run_pure]⟩
  case eql => cases h; exact ⟨.bool (x == y), by simp only [Rv], by simp [binOp, Op.intCmp]⟩
  case neq => cases h; exact ⟨.bool (x != y), by simp only [Rv], by simp [binOp, Op.intCmp]⟩
  case lss => cases h; exact ⟨.bool (decide (x < y)), by simp only [Rv], by simp [binOp, Op.intCmp]⟩
  case leq => cases h; exact ⟨.bool (decide (x ≤ y)), by simp only [Rv], by simp [binOp, Op.intCmp]⟩
  case gtr => cases h; exact ⟨.bool (decide (x > y)), by simp only [Rv], by simp [binOp, Op.intCmp]⟩
  case geq => cases h; exact ⟨.bool (decide (x ≥ y)), by simp only [Rv], by simp [binOp, Op.intCmp]⟩
  all_goals cases h

theorem binS_sound {op : BinOp} {x y : List UInt8} {z : AV} (h : binS op x y = some z) {t : TypeId} : ∃ v, Rv S G w z v ∧ (binOp op t (.string ⟨⟨x⟩⟩) (.string ⟨⟨y⟩⟩)).run P w = .ok v w := by
  have e1 : (⟨⟨x⟩⟩ : ByteArray).toList = x := by rw [ByteArray.toList_eq]
  have e2 : (⟨⟨y⟩⟩ : ByteArray).toList = y := by rw [ByteArray.toList_eq]
  cases op <;> simp only [binS] at h <;> first | (cases h; done) | skip
  case add =>
    cases hb : Nat.ble (x.length + y.length) 9223372036854775807 with
    | false => rw [hb] at h; cases h
    | true =>
      rw [hb] at h
      cases h
      have hle := Nat.le_of_ble_eq_true hb
      have hap : (⟨⟨x⟩⟩ : ByteArray) ++ ⟨⟨y⟩⟩ = ⟨⟨x ++ y⟩⟩ := by
        apply ByteArray.ext
        simp
      have hs : ¬ ((((⟨⟨x⟩⟩ : ByteArray).size + (⟨⟨y⟩⟩ : ByteArray).size : Nat) : Int) > IntKind.i64.max) := by
        have p63 : (2 : Int) ^ 63 = 9223372036854775808 := by decide
        have m : IntKind.i64.max = 9223372036854775807 := by simp only [IntKind.max, IntKind.signed, IntKind.bits, if_true, Nat.reduceSub, p63]; decide
        rw [m]
        simp only [ByteArray.size, List.size_toArray]
        omega
      refine ⟨.string ⟨⟨x ++ y⟩⟩, by simp only [Rv], ?_⟩
      simp only [binOp, Op.stringOp, if_neg hs, hap, Sem.run_pure]
  case eql => cases h; exact ⟨.bool (beqB x y), by simp only [Rv], by simp [binOp, Op.stringOp, e1, e2, beqB_eq]⟩
  case neq => cases h; exact ⟨.bool (!beqB x y), by simp only [Rv], by simp [binOp, Op.stringOp, e1, e2, beqB_eq]⟩
  case lss => cases h; exact ⟨.bool (ltB x y), by simp only [Rv], by simp [binOp, Op.stringOp, e1, e2, ltB_eq]⟩
  case leq => cases h; exact ⟨.bool (ltB x y || beqB x y), by simp only [Rv], by simp [binOp, Op.stringOp, e1, e2, beqB_eq, ltB_eq]⟩
  case gtr => cases h; exact ⟨.bool (!(ltB x y || beqB x y)), by simp only [Rv], by simp [binOp, Op.stringOp, e1, e2, beqB_eq, ltB_eq]⟩
  case geq => cases h; exact ⟨.bool (!ltB x y), by simp only [Rv], by simp [binOp, Op.stringOp, e1, e2, ltB_eq]⟩
end
end Go.Dn
