/- One operation, seventh part: slices that are made and that grow. -/
import Derived.Test.YtinhgnepnkbpcaaGreatDoorDnQe
set_option linter.unusedSimpArgs false
set_option linter.unusedVariables false
namespace Go.Dn
open Go Go.RowKit

section
variable {P : Program} {gt : GT} {O : Orig} {S : St} {G : Gh} {w : World} {env env' : Env} {a : Act} {S' : St} {o : Oper}

theorem elems_sound (hI : Inv P gt S G w) {agg : Bool} {es : Nat} {so : SI} {xs ys : List AV} {ad : Option Addr} {len cap : Nat} (he : elems S agg es so xs = some ys) (hsl : SlOK S G w es so xs.length ad len cap) (hrat : rd S so = .here → ∀ p, ad = some p → Rat S G w p.block es xs p.off) :
    ys.length = xs.length ∧ (∀ y ∈ ys, y.cells.length = es) ∧ ∃ us : List Value, Rl S G w (ys.flatMap AV.cells) us ∧ us.length = len * es ∧ (∀ p, ad = some p → 0 < cap → p.spot = none ∧ ∀ j, j < us.length → w.cell? ⟨p.block, p.off + j, none⟩ = us[j]?) := by
  have hl := hsl.1
  subst hl
  by_cases h0 : xs = []
  · subst h0
    have : ys = [] := by
      unfold elems at he
      split at he
      · cases he; rfl
      · split at he
        · simp only [List.length_nil, cutAll, Option.some.injEq] at he; exact he.symm
        · cases he
      · cases he
    subst this
    exact ⟨rfl, by simp, [], Rl.nil, by simp, fun p hp hc => ⟨(hsl.2.2.2.2.2 p hp hc).2.1, fun j hj => by simp at hj⟩⟩
  · have hpos : 0 < xs.length := List.length_pos_iff.2 h0
    have hcap : 0 < cap := by have := hsl.2.1; omega
    cases ad with
    | none => have := hsl.2.2.2.2.1 rfl; omega
    | some p =>
      obtain ⟨g1, g2, g3, g5⟩ := hsl.2.2.2.2.2 p rfl hcap
      unfold elems at he
      cases hr : rd S so with
      | here =>
        rw [hr] at he
        cases he
        obtain ⟨k1, us, k2, k3, k4⟩ := (hrat hr p rfl).cells
        exact ⟨rfl, k1, us, k2, k3, fun q hq _ => by cases hq; exact ⟨g2, k4⟩⟩
      | box b boff =>
        rw [hr] at he g5
        simp only at he g5
        split at he
        · rename_i ty cs hk
          obtain ⟨_, pre, rest, fr, sf, h2, _, h3⟩ := hI.boxCells hk
          obtain ⟨k1, k2, k3, k4⟩ := cutAll_sound h3 _ _ he
          have hlen := h3.length
          have k2' := k2 hpos
          refine ⟨k1, k3, _, k4, by simp; omega, fun q hq _ => ?_⟩
          cases hq
          refine ⟨g2, fun j hj => ?_⟩
          simp only [List.length_take, List.length_drop] at hj
          rw [g5.2.1, g5.2.2.1, show boff + so.off * es + j = boff + so.off * es + j from rfl, cell_pre h2 (by omega), List.getElem?_take_of_lt (by omega), List.getElem?_drop]
        · cases he
      | no => rw [hr] at he; cases he

theorem run_firstCells {es n : Nat} {ad : Option Addr} {len cap : Nat} {us : List Value} (hu : us.length = n * es) (hn : ad = none → us = []) (hc : ∀ p, ad = some p → us ≠ [] → p.spot = none ∧ ∀ j, j < us.length → w.cell? ⟨p.block, p.off + j, none⟩ = us[j]?) :
    (Builtin.firstCells es n (.slice ad len cap)).run P w = .ok ⟨us⟩ w := by
  cases ad with
  | none => rw [hn rfl]; rfl
  | some p =>
    simp only [Builtin.firstCells, ← hu]
    by_cases h0 : us = []
    · subst h0; rfl
    · obtain ⟨h1, h2⟩ := hc p rfl h0
      rw [addr_eta h1]
      exact run_ldC us h2

theorem growBy_le (n : Nat) : ∀ (r c : Nat), c ≤ n + n / 4 + 1000 → Builtin.growBy n r c ≤ n + n / 4 + 1000
  | 0, c, h => h
  | r + 1, c, h => by
    simp only [Builtin.growBy]
    split
    · exact h
    · exact growBy_le n r _ (by omega)

theorem nextslicecap_le {n c : Nat} (h : c < n) : Builtin.nextslicecap n c ≤ n + n / 4 + 1000 := by
  unfold Builtin.nextslicecap
  split
  · omega
  · split
    · omega
    · exact growBy_le n 4 c (by omega)

theorem zeroCells_size (z : Array Value) (n : Nat) : (Builtin.zeroCells z n).size = n * z.size := by simp [Builtin.zeroCells]

theorem zeros_run {u : TypeId} {d : TypeDesc} (hu : P.underlying u = some d) (hd : ∀ k, d ≠ .int k) (w : World) : ((do pure ((← underlying u) matches .int _)) : Sem Bool).run P w = .ok false w := by
  simp only [Sem.run_bind, run_underlying hu, Result.andThen_ok]
  cases d <;> first | rfl | exact absurd rfl (hd _)

theorem run_append_new {t u e : TypeId} {i : TypeInfo} {d : TypeDesc} {z : AV} {ad : Option Addr} {sLen sCap k : Nat} {x : Value} {ov nv : List Value} (ht : P.underlying t = some (.slice e)) (hu : P.underlying u = some d) (hd : ∀ k, d ≠ .int k) (hi : P.info? e = some i) (hz : elemC P e = some z) (hzl : z.cells.length = i.size)
    (hlen : (Builtin.lenOf x).run P w = .ok k w) (hnew : ∀ w', Gr w w' → (Builtin.firstCells i.size k x).run P w' = .ok ⟨nv⟩ w') (hold : ∀ w', Gr w w' → (Builtin.firstCells i.size sLen (.slice ad sLen sCap)).run P w' = .ok ⟨ov⟩ w') (hbig : sCap < sLen + k)
    (hb1 : (sLen + k) * i.bytes ≤ 140737488355328) (hb2 : sLen + k ≤ 140737488355328) (hb3 : i.bytes ≤ 1048576) (ty : TypeId) :
    ∃ (newCap : Nat) (rest : List Value) (w' : World), sLen + k ≤ newCap ∧ rest.length = (newCap - (sLen + k)) * i.size ∧ Gr w w' ∧ w'.heap = w.heap ∧
      (Builtin.append_ #[t, u] ty #[.slice ad sLen sCap, x]).run P w = .ok (.slice (some ⟨w.heap.size, 0, none⟩) (sLen + k) newCap) { w' with heap := w'.heap.push (.cells ⟨ov ++ nv ++ rest⟩ e (0, 0)) } := by
  obtain ⟨zv, z1, z2⟩ := elemC_sound hz
  have hzs : zv.cells.size = i.size := by
    have := (z2 St.init ⟨id, id, id, id, id, fun _ => False⟩ default).cells_size
    rw [this, hzl]
  have hsz : ∀ w, (sizeOf e).run P w = .ok i.size w := fun w => by simp [sizeOf, typeInfo, hi]
  have hti : ∀ w, (typeInfo e).run P w = .ok i w := fun w => by simp [typeInfo, hi]
  have hmax : ¬ (((sLen + k : Nat) : Int) > IntKind.i64.max) := by
    have p63 : (2 : Int) ^ 63 = 9223372036854775808 := by decide
    have m : IntKind.i64.max = 9223372036854775807 := by simp only [IntKind.max, IntKind.signed, IntKind.bits, if_true, Nat.reduceSub, p63]; decide
    rw [m]; omega
  have hcapb : ¬ (Builtin.nextslicecap (sLen + k) sCap * i.bytes > 2 ^ 48) := by
    have h1 := nextslicecap_le hbig
    have h2 : Builtin.nextslicecap (sLen + k) sCap * i.bytes ≤ ((sLen + k) + (sLen + k) / 4 + 1000) * i.bytes := Nat.mul_le_mul_right _ h1
    have h3 : ((sLen + k) + (sLen + k) / 4 + 1000) * i.bytes = (sLen + k) * i.bytes + (sLen + k) / 4 * i.bytes + 1000 * i.bytes := by rw [Nat.add_mul, Nat.add_mul]
    have h5 : (sLen + k) / 4 * i.bytes ≤ (sLen + k) * i.bytes / 4 := by
      rw [Nat.le_div_iff_mul_le (by decide), Nat.mul_right_comm]
      exact Nat.mul_le_mul_right _ (Nat.div_mul_le_self _ _)
    have h4 : (2 : Nat) ^ 48 = 281474976710656 := by decide
    omega
  let q : Question := .appendCap (sLen + k) sCap e
  let newCap := q.cut (w.tape w.drawn q)
  have hge : sLen + k ≤ newCap := by simp only [newCap, q, Question.cut]; omega
  let w' : World := { w with drawn := w.drawn + 1 }
  have hg : Gr w w' := Gr.drew w _
  refine ⟨newCap, (Builtin.zeroCells zv.cells (newCap - (sLen + k))).toList, w', hge, by simp [zeroCells_size, hzs], hg, rfl, ?_⟩
  have hch : (choose q).run P w = .ok newCap w' := by simp [choose, Sem.run, q, Question.forced, newCap, w']
  have hroom : ∀ (b : Nat) (w : World), (askRoom b).run P w = .ok () w := fun b w => by
    unfold askRoom; split <;> simp [mark, Sem.run]
  unfold Builtin.append_
  simp only [List.getElem?_toArray, List.getElem?_cons_zero, List.getElem?_cons_succ, Sem.run_bind, run_underlying ht, Result.andThen_ok, hsz, run_underlying hu]
  simp only [Sem.run_pure, Result.andThen_ok, Bool.false_eq_true, if_false]
  rw [Sem.run_bind, hlen]
  simp only [Result.andThen_ok]
  rw [if_neg (by omega)]
  simp only [hti, Sem.run_bind, Result.andThen_ok, hmax, false_and, if_false, hcapb, hch, hroom, hold w' hg, Bool.not_false, if_true, hnew w' hg, z1, Sem.run_pure, q]
  simp [newRow, newObj, Sem.run, w']
  refine ⟨?_, rfl, rfl⟩
  show w.heap.push _ = w.heap.push _
  congr 2
  apply Array.ext'
  simp

theorem run_append_in {t u e : TypeId} {i : TypeInfo} {d : TypeDesc} {ad : Option Addr} {sLen sCap k : Nat} {x : Value} {nv : List Value} {w' : World} (ht : P.underlying t = some (.slice e)) (hu : P.underlying u = some d) (hd : ∀ k, d ≠ .int k) (hi : P.info? e = some i)
    (hlen : (Builtin.lenOf x).run P w = .ok k w) (hnew : (Builtin.firstCells i.size k x).run P w = .ok ⟨nv⟩ w) (hroom : sLen + k ≤ sCap)
    (hst : ∀ p, ad = some p → (storeCells (p.add (sLen * i.size)) nv).run P w = .ok () w') (hn : ad = none → w' = w) (ty : TypeId) :
    (Builtin.append_ #[t, u] ty #[.slice ad sLen sCap, x]).run P w = .ok (.slice ad (sLen + k) sCap) w' := by
  have hsz : ∀ w, (sizeOf e).run P w = .ok i.size w := fun w => by simp [sizeOf, typeInfo, hi]
  unfold Builtin.append_
  simp only [List.getElem?_toArray, List.getElem?_cons_zero, List.getElem?_cons_succ, Sem.run_bind, run_underlying ht, Result.andThen_ok, hsz, run_underlying hu]
  simp only [Sem.run_pure, Result.andThen_ok, Bool.false_eq_true, if_false]
  rw [Sem.run_bind, hlen]
  simp only [Result.andThen_ok]
  rw [if_pos hroom]
  simp only [Bool.not_false, if_true, Sem.run_bind, hnew, Result.andThen_ok]
  cases ad with
  | none => rw [hn rfl]; rfl
  | some p => simp only [Sem.run_bind, hst p rfl, Result.andThen_ok, Sem.run_pure]

theorem ofBytes_Rl (s : List UInt8) : Rl S G w (ofBytes s) (s.map fun b => .int .u8 b.toNat) := by
  induction s with
  | nil => exact Rl.nil
  | cons b s ih => exact Rl.cons (by simp [Rv]) ih

theorem ofBytes_cells (s : List UInt8) : (ofBytes s).flatMap AV.cells = ofBytes s := by
  induction s with
  | nil => rfl
  | cons b s ih =>
    simp only [ofBytes, List.map_cons, List.flatMap_cons, AV.cells, List.singleton_append] at ih ⊢
    rw [ih]

/-- what is appended: its number, its cells -/
theorem src_sound (hI : Inv P gt S G w) {agg : Bool} {es : Nat} {y : AV} {yv : Value} (hy : Rv S G w y yv) {ys : List AV}
    (h : srcE S agg es y = some ys) :
    (∀ y ∈ ys, y.cells.length = es) ∧ (∀ w, (Builtin.lenOf yv).run P w = .ok ys.length w) ∧ ∃ nv : List Value, Rl S G w (ys.flatMap AV.cells) nv ∧ nv.length = ys.length * es ∧ ∀ w', Gr w w' → (Builtin.firstCells es ys.length yv).run P w' = .ok ⟨nv⟩ w' := by
  unfold srcE at h
  split at h
  · rename_i es'' o' zs
    cases hb : Nat.beq es'' es with
    | false => rw [hb] at h; cases h
    | true =>
      rw [hb] at h
      have hb := Nat.eq_of_beq_eq_true hb
      subst hb
      simp only [cond_true] at h
      have hy' := hy
      simp only [Rv] at hy'
      obtain ⟨ad, len, cap, rfl, hsl, hrat⟩ := hy'
      obtain ⟨k1, k2, us, k3, k4, k5⟩ := elems_sound hI h hsl hrat
      have hl := hsl.1
      refine ⟨k2, fun w => by simp [Builtin.lenOf, hl, k1], us, k3, by rw [k4, hl, k1], fun w' hg => ?_⟩
      have hun : ad = none → us = [] := fun e => by
        have h1 := hsl.2.2.2.2.1 e
        have h2 := hsl.2.1
        have : us.length = 0 := by rw [k4, show len = 0 by omega]; simp
        exact List.length_eq_zero_iff.1 this
      refine run_firstCells (by rw [k4, hl, k1]) hun (fun p hp h0 => ?_)
      have hc : 0 < cap := by
        have h2 := hsl.2.1
        rcases Nat.eq_zero_or_pos cap with e | e
        · exact absurd (List.length_eq_zero_iff.1 (by rw [k4, show len = 0 by omega]; simp)) h0
        · exact e
      obtain ⟨g1, g2⟩ := k5 p hp hc
      refine ⟨g1, fun j hj => ?_⟩
      rw [← g2 j hj]
      obtain ⟨_, _, ⟨ty, k, g3, _⟩, _⟩ := hsl.2.2.2.2.2 p hp hc
      simp only [World.cell?, hg.same _ (shape_lt g3)]
  · rename_i s
    cases hb : Nat.beq es 1 with
    | false => rw [hb] at h; cases h
    | true =>
      rw [hb] at h
      have hb := Nat.eq_of_beq_eq_true hb
      subst hb
      simp only [cond_true, Option.some.injEq] at h
      subst h
      simp only [Rv] at hy
      subst hy
      refine ⟨fun y hy => ?_, fun w => by simp [Builtin.lenOf, ofBytes, ByteArray.size], _, by rw [ofBytes_cells]; exact ofBytes_Rl s, by simp [ofBytes], fun w' _ => ?_⟩
      · simp only [ofBytes, List.mem_map] at hy
        obtain ⟨b, _, rfl⟩ := hy
        rfl
      · simp only [Builtin.firstCells, Sem.run_pure]
        congr 1
        apply Array.ext'
        simp [ofBytes, ByteArray.data_extract]
  · cases h

theorem so_app (h : Good P gt O S G w env a) (hd : ∀ d, o.dst = some d → O.N.ok d) {c : Call} {t u e : TypeId} {dd : TypeDesc} {i : TypeInfo} {agg : Bool} {z : AV} {x y : Operand} {dx dy : DOpd} (hop : o.op = .call c) (hc : c.callee = .builtin .append) (ht : c.argTypes = #[t, u]) (ha : c.args = #[x, y])
    (hu : P.underlying t = some (.slice e)) (hu2 : P.underlying u = some dd) (hdd : ∀ k, dd ≠ .int k) (hi : P.info? e = some i) (hz : elemC P e = some z) (hzl : z.cells.length = i.size) (hx : opdP P t x = some dx) (hy : opdP P u y = some dy)
    (hs : stepO gt o.dst env S (.app agg e i.size i.bytes dx dy) = .done env' S') : OpOK P gt O o w a env' S' := by
  obtain ⟨fb, hfr⟩ := h.fr
  have hrunB : ∀ {v : Value} {w' : World}, (Builtin.append_ #[t, u] o.type #[a.eval x, a.eval y]).run P w = .ok v w' → (execOp a.eval o).run P w = .ok (.value v) w' := fun hq =>
    run_builtin hop hc (fun cs => rfl) (by rw [ht, ha]; simpa using hq)
  simp only [stepO] at hs
  split at hs
  · rename_i xa ya hxa hya
    split at hs
    · rename_i v S1 happ
      simp only [SR.done.injEq] at hs
      obtain ⟨rfl, rfl⟩ := hs
      have rx := opd_sound hx hxa hfr
      have ry := opd_sound hy hya hfr
      unfold appV at happ
      split at happ
      · rename_i es' so xs
        have rx0 := rx
        simp only [Rv] at rx
        obtain ⟨ad, len, cap, hv, hsl, hrat⟩ := rx
        have hl := hsl.1
        subst hl
        split at happ
        · -- nothing is appended
          rename_i hnew hel
          cases happ
          obtain ⟨_, s2, nv, s3, s4, s5⟩ := src_sound (es := i.size) h.inv ry hnew
          have hnv : nv = [] := List.length_eq_zero_iff.1 (by rw [s4]; simp)
          subst hnv
          refine ok_val h hd rx0 (hrunB ?_)
          rw [hv]
          have := run_append_in (P := P) (w := w) (w' := w) (t := t) (u := u) (ad := ad) (sLen := xs.length) (sCap := cap) (nv := []) hu hu2 hdd hi (s2 w) (s5 w (Gr.refl w)) (by have := hsl.2.1; simpa using this) (fun p _ => rfl) (fun _ => rfl) o.type
          simpa using this
        · rename_i y0 ys xs' hnew hel
          cases hb : (Nat.beq es' i.size && (Nat.ble ((xs.length + (y0 :: ys).length) * i.bytes) 140737488355328 && (Nat.ble (xs.length + (y0 :: ys).length) 140737488355328 && (Nat.ble i.bytes 1048576 && Nat.blt 0 i.size)))) with
          | false => rw [hb] at happ; cases happ
          | true =>
          rw [hb] at happ
          simp only [cond_true] at happ
          simp only [Bool.and_eq_true] at hb
          obtain ⟨b1, b2, b3, b4, b5⟩ := hb
          have b1 := Nat.eq_of_beq_eq_true b1
          subst b1
          have b2 := Nat.le_of_ble_eq_true b2
          have b3 := Nat.le_of_ble_eq_true b3
          have b4 := Nat.le_of_ble_eq_true b4
          have b5 := blt_lt b5
          obtain ⟨s1, s2, nv, s3, s4, s5⟩ := src_sound (es := i.size) h.inv ry hnew
          obtain ⟨t1, t2, ov, t3, t4, t5⟩ := elems_sound h.inv hel hsl hrat
          have hle := hsl.2.1
          have hold : ∀ w', Gr w w' → (Builtin.firstCells i.size xs.length (.slice ad xs.length cap)).run P w' = .ok ⟨ov⟩ w' := fun w' hg =>
            run_firstCells t4 (fun e0 => List.length_eq_zero_iff.1 (by rw [t4, show xs.length = 0 by have := hsl.2.2.2.2.1 e0; omega]; simp)) (fun p hp h0 => by
              have hcp : 0 < cap := by
                rcases Nat.eq_zero_or_pos cap with e | e
                · exact absurd (List.length_eq_zero_iff.1 (by rw [t4, show xs.length = 0 by omega]; simp)) h0
                · exact e
              obtain ⟨g1, g2⟩ := t5 p hp hcp
              refine ⟨g1, fun j hj => ?_⟩
              rw [← g2 j hj]
              obtain ⟨_, _, ⟨ty, k, g3, _⟩, _⟩ := hsl.2.2.2.2.2 p hp hcp
              simp only [World.cell?, hg.same _ (shape_lt g3)])
          have hsz : sizeP P e = some i.size := by simp [sizeP, hi]
          have hcells : Rl S G w ((xs' ++ y0 :: ys).flatMap AV.cells) (ov ++ nv) := by rw [List.flatMap_append]; exact t3.append s3
          have hall : ∀ q ∈ xs' ++ y0 :: ys, q.cells.length = i.size := fun q hq => by
            rcases List.mem_append.1 hq with hq | hq
            · exact t2 q hq
            · exact s1 q hq
          have hlen2 : (xs' ++ y0 :: ys).length = xs.length + (y0 :: ys).length := by simp [t1]
          -- a new array
          have newcase : ∀ {l : Nat} {tip' : List (Nat × Option (Nat × TypeId × Bool))} {sf : Bool}, cap < xs.length + (y0 :: ys).length → l < S.nt + 1 → (l = S.nt ∨ lk S.dl l = none) →
              (∀ t y, lk tip' t = some (some y) → lk S.tip t = some (some y)) → (∀ t, S.nt + 1 ≤ t → lk tip' t = none) →
              OpOK P gt O o w a (putV o.dst (.sl i.size ⟨some (S.nt, l), 0, none, false⟩ (xs' ++ y0 :: ys)) env) { S with nt := S.nt + 1, tip := (S.nt, some (xs.length + (y0 :: ys).length, e, sf)) :: tip' } := by
            intro l tip' sf hbig hlt hdl ht' hk'
            obtain ⟨newCap, rest, w1, q1, q2, q3, q4, q5⟩ := run_append_new (P := P) (w := w) (t := t) (u := u) (ad := ad) (sLen := xs.length) (sCap := cap) hu hu2 hdd hi hz hzl (s2 w) s5 hold hbig b2 b3 b4 o.type
            have h1 := h.step (Tr.gr h.inv q3)
            have hsize : w1.heap.size = w.heap.size := by rw [q4]
            have hcs : (xs.length + (y0 :: ys).length) * i.size ≤ (⟨ov ++ nv ++ rest⟩ : Array Value).size := by
              simp only [List.size_toArray, List.length_append, t4, s4]
              rw [Nat.add_mul]; omega
            have htr := Tr.newTok (sf := sf) (c := ⟨ov ++ nv ++ rest⟩) (fr := (0, 0)) (l := l) h1.inv hsz hcs (.inl rfl) hlt ht' hk'
            have h2 := h1.step htr
            refine ⟨_, _, .inl ⟨_, hrunB (by rw [hv]; exact q5), h2.putV hd ?_⟩⟩
            have hext := (Tr.gr h.inv q3).ext.trans htr.ext
            have hrl := hcells.mono hext
            simp only [Rv]
            have hnb : ∀ j, j < (ov ++ nv).length → ({ w1 with heap := w1.heap.push (.cells ⟨ov ++ nv ++ rest⟩ e (0, 0)) } : World).cell? ⟨w.heap.size, 0 + j, none⟩ = (ov ++ nv)[j]? := fun j hj => by
              simp only [World.cell?, ← hsize, Array.getElem?_push_size, Nat.zero_add]
              simp [List.getElem?_append_left hj, List.append_assoc]
              rw [← List.append_assoc, List.getElem?_append_left (by simpa using hj)]
            refine ⟨some ⟨w.heap.size, 0, none⟩, _, _, rfl, ⟨hlen2.symm, q1, by simp, fun c hc => by simp at hc, fun hc => (by cases hc), fun p hp hc => ?_⟩, fun _ p hp => ?_⟩
            · cases hp
              refine ⟨b5, rfl, ⟨e, (⟨ov ++ nv ++ rest⟩ : Array Value).size, ?_, ?_⟩, ?_⟩
              · simp only [World.shape?, ← hsize, Array.getElem?_push_size]
              · simp only [List.size_toArray, List.length_append, t4, s4, q2, Nat.zero_add]
                rw [← Nat.add_mul, ← Nat.add_mul]
                exact Nat.mul_le_mul_right _ (by omega)
              · have hr : rd { S with nt := S.nt + 1, tip := (S.nt, some (xs.length + (y0 :: ys).length, e, sf)) :: tip' } ⟨some (S.nt, l), 0, none, false⟩ = .here := by
                  unfold rd
                  simp only [h.inv.kMv S.nt (Nat.le_refl _)]
                  rcases hdl with rfl | hdl
                  · simp only [h.inv.kDl S.nt (Nat.le_refl _)]
                  · simp only [hdl]
                rw [hr]
                simp only [upd_same, ← hsize]
                exact ⟨Nat.lt_succ_self _, trivial, trivial, by simp, by simp⟩
            · cases hp
              exact Rat.ofCells hrl hall hnb
          split at happ
          · -- the capacity is known
            rename_i cp hcp
            cases hbc : Nat.ble (xs.length + (y0 :: ys).length) cp with
            | true =>
              rw [hbc] at happ
              simp only [cond_true] at happ
              have hfit := Nat.le_of_ble_eq_true hbc
              have hce := hsl.2.2.2.1 cp hcp
              subst hce
              split at happ
              · rename_i b boff hrd
                split at happ
                · rename_i ty' bc hbk
                  cases hbt : (((y0 :: ys).flatMap AV.cells).all ok1 && Nat.ble (boff + (so.off + xs.length) * i.size + ((y0 :: ys).flatMap AV.cells).length) bc.length) with
                  | false => rw [hbt] at happ; cases happ
                  | true =>
                    rw [hbt] at happ
                    simp only [cond_true, Option.some.injEq, Prod.mk.injEq] at happ
                    obtain ⟨rfl, rfl⟩ := happ
                    simp only [Bool.and_eq_true] at hbt
                    have hcap : 0 < cap := by simp only [List.length_cons] at hfit; omega
                    cases ad with
                    | none => have := hsl.2.2.2.2.1 rfl; omega
                    | some p =>
                    obtain ⟨g1, g2, g3, g5⟩ := hsl.2.2.2.2.2 p rfl hcap
                    rw [hrd] at g5
                    obtain ⟨e1, e2, e3, e4⟩ := g5
                    obtain ⟨w', k1, k2⟩ := stBox_tr h.inv hbk (Nat.le_of_ble_eq_true hbt.2) s3 hbt.1
                    have hpa : p.add (xs.length * i.size) = ⟨G.β b, boff + (so.off + xs.length) * i.size, none⟩ := by
                      obtain ⟨pb, po, ps⟩ := p
                      simp only at g2 e2 e3
                      subst g2; subst e2; subst e3
                      rw [add_none, Nat.add_mul]; simp; omega
                    have hrun2 := run_append_in (P := P) (w := w) (t := t) (u := u) (ad := some p) (sLen := xs.length) (sCap := cap) (nv := nv) hu hu2 hdd hi (s2 w) (s5 w (Gr.refl w)) hfit (fun q hq => by cases hq; rw [hpa]; exact k1) (fun e0 => by cases e0) o.type
                    refine ⟨_, _, .inl ⟨_, hrunB (by rw [hv]; exact hrun2), (h.step k2).putV hd ?_⟩⟩
                    have hm := hsl.mono k2.ext
                    have hrd' : rd { S with boxes := (b, some (ty', splice bc (boff + (so.off + xs.length) * i.size) ((y0 :: ys).flatMap AV.cells))) :: S.boxes } so = .box b boff := hrd
                    simp only [Rv]
                    refine ⟨some p, _, _, rfl, ⟨hlen2.symm, hfit, hm.2.2.1, hm.2.2.2.1, hm.2.2.2.2.1, fun q hq hc => ?_⟩, fun hr => by rw [hrd'] at hr; cases hr⟩
                    cases hq
                    obtain ⟨m1, m2, m3, m4⟩ := hm.2.2.2.2.2 p rfl hcap
                    refine ⟨m1, m2, m3, ?_⟩
                    rw [hrd'] at m4 ⊢
                    exact m4
                · cases happ
              · cases happ
            | false =>
              rw [hbc] at happ
              simp only [cond_false, Option.some.injEq, Prod.mk.injEq] at happ
              obtain ⟨rfl, rfl⟩ := happ
              have hce := hsl.2.2.2.1 cp hcp
              have : ¬ (xs.length + (y0 :: ys).length ≤ cp) := fun hq => by rw [Nat.ble_eq_true_of_le hq] at hbc; cases hbc
              exact newcase (l := S.nt) (tip' := S.tip) (by omega) (Nat.lt_succ_self _) (.inl rfl) (fun _ _ hq => hq) (fun t ht0 => h.inv.kTip t (by omega))
          · rename_i hcn
            split at happ
            · rename_i tk ln htk hrd
              split at happ
              · rename_i m ty' sf htip
                cases hbt : (Nat.beq ty' e && (Nat.beq m xs.length && (Nat.beq so.off 0 && (Nat.ble ln S.nt && ((y0 :: ys).flatMap AV.cells).all ok1)))) with
                | false => rw [hbt] at happ; cases happ
                | true =>
                  rw [hbt] at happ
                  simp only [cond_true, Option.some.injEq, Prod.mk.injEq] at happ
                  obtain ⟨rfl, rfl⟩ := happ
                  simp only [Bool.and_eq_true] at hbt
                  obtain ⟨c1, c2, c3, c5, c4⟩ := hbt
                  have c5 := Nat.le_of_ble_eq_true c5
                  have c1 := Nat.eq_of_beq_eq_true c1
                  have c2 := Nat.eq_of_beq_eq_true c2
                  have c3 := Nat.eq_of_beq_eq_true c3
                  have c1 := c1.symm
                  subst c1; subst c2
                  have hmd : lk S.mv tk = none ∧ lk S.dl ln = none := by
                    unfold rd at hrd
                    simp only [htk] at hrd
                    cases hm : lk S.mv tk with
                    | some m => rw [hm] at hrd; cases m; simp at hrd
                    | none =>
                      rw [hm] at hrd
                      simp only at hrd
                      cases hdd' : lk S.dl ln with
                      | some u => rw [hdd'] at hrd; cases hrd
                      | none => exact ⟨rfl, rfl⟩
                  by_cases hbig : cap < xs.length + (y0 :: ys).length
                  · refine newcase (l := ln) (tip' := (tk, none) :: S.tip) (sf := sf) hbig (by omega) (.inr hmd.2) (fun t y hq => ?_) (fun t ht0 => ?_)
                    · by_cases e' : tk = t
                      · subst e'; rw [lk_same] at hq; cases hq
                      · rw [lk_ne _ _ e'] at hq; exact hq
                    · have := (h.inv.tip tk _ _ _ htip).1
                      rw [lk_ne _ _ (by omega)]; exact h.inv.kTip t (by omega)
                  · have hcap : 0 < cap := by simp only [List.length_cons] at hbig; omega
                    have hbig : xs.length + (y0 :: ys).length ≤ cap := by omega
                    have hxs : xs' = xs := by
                      unfold elems at hel; rw [hrd] at hel; simpa using hel.symm
                    subst hxs
                    cases ad with
                    | none => have := hsl.2.2.2.2.1 rfl; omega
                    | some p =>
                    obtain ⟨g1, g2, ⟨tyb, kb, g3, g4⟩, g5⟩ := hsl.2.2.2.2.2 p rfl hcap
                    rw [hrd] at g5
                    simp only [htk] at g5
                    obtain ⟨e1, e2, e3, e4, e5⟩ := g5
                    have hvl : Vld S G tk := ⟨hmd.1, by rw [e2]; exact hmd.2⟩
                    obtain ⟨_, ht2⟩ := h.inv.tip tk _ _ _ htip
                    obtain ⟨es0, cc, fr, k1, k2, k3, k4, k5⟩ := ht2 hvl
                    rw [hsz] at k1; cases k1
                    have hq0 : p.off = 0 := by rw [e4, c3]; simp
                    have hkb : kb = cc.size := by
                      rw [← e3] at g3
                      simp only [World.shape?, k2, Option.some.injEq, Prod.mk.injEq] at g3
                      exact g3.2.symm
                    subst hkb
                    have hfit : (xs'.length + (y0 :: ys).length) * i.size ≤ cc.size := by
                      have : (xs'.length + (y0 :: ys).length) * i.size ≤ cap * i.size := Nat.mul_le_mul_right _ hbig
                      omega
                    have hfit2 := hfit
                    rw [Nat.add_mul] at hfit2
                    obtain ⟨cl⟩ := cc
                    simp only [List.size_toArray] at hfit hfit2 k4 k5
                    have hrun := run_stC P (G.τ tk) (xs'.length * i.size) e fr nv 0 cl w k2 (by rw [s4]; omega) (fun k hk => k5.free hk) (s3.one c4)
                    rw [Nat.add_zero] at hrun
                    have hspl := spl_length (l := cl) (off := xs'.length * i.size) (new := nv) (by rw [s4]; omega)
                    have hget := spl_get (l := cl) (off := xs'.length * i.size) (new := nv) (by rw [s4]; omega)
                    have htr := Tr.inPlace (n := xs'.length + (y0 :: ys).length) (c' := ⟨spl cl (xs'.length * i.size) nv⟩) h.inv htip hvl hsz k2 (by simpa using hspl) (by omega) (by simpa using hfit) (fun j hj => by
                      simp only [List.getElem?_toArray]; rw [hget, if_pos hj])
                    have h2 := h.step htr
                    have hpa : p.add (xs'.length * i.size) = ⟨G.τ tk, xs'.length * i.size, none⟩ := by
                      obtain ⟨pb, po, ps⟩ := p
                      simp only at g2 e3 hq0
                      subst g2; subst e3; subst hq0
                      rw [add_none]; simp
                    have hrun2 := run_append_in (P := P) (w := w) (t := t) (u := u) (ad := some p) (sLen := xs'.length) (sCap := cap) (nv := nv) hu hu2 hdd hi (s2 w) (s5 w (Gr.refl w)) hbig (fun q hq => by cases hq; rw [hpa]; exact hrun) (fun e0 => by cases e0) o.type
                    refine ⟨_, _, .inl ⟨_, hrunB (by rw [hv]; exact hrun2), h2.putV hd ?_⟩⟩
                    have hext := htr.ext
                    have hrl := hcells.mono hext
                    have hlt := lt_of_some k2
                    have hnb : ∀ j, j < (ov ++ nv).length → (wBlk w (G.τ tk) (.cells ⟨spl cl (xs'.length * i.size) nv⟩ e fr)).cell? ⟨p.block, 0 + j, none⟩ = (ov ++ nv)[j]? := fun j hj => by
                      simp only [World.cell?, ← e3, wBlk_same _ hlt, Nat.zero_add, List.getElem?_toArray]
                      rw [hget]
                      simp only [Option.isSome_none, Bool.false_eq_true, if_false]
                      by_cases hj1 : j < xs'.length * i.size
                      · rw [if_pos hj1, List.getElem?_append_left (by omega)]
                        have := (t5 p rfl hcap).2 j (by omega)
                        rw [hq0, Nat.zero_add, ← e3] at this
                        rw [← this]
                        simp [World.cell?, k2]
                      · have hj2 := hj
                        rw [List.length_append] at hj2
                        rw [if_neg hj1, List.getElem?_append_right (by omega), if_pos (by omega), t4]
                    simp only [Rv]
                    refine ⟨some p, _, _, rfl, ⟨hlen2.symm, hbig, by simp, fun c hc => by simp at hc, fun hc => (by cases hc), fun q hq hc => ?_⟩, fun _ q hq => ?_⟩
                    · cases hq
                      refine ⟨b5, g2, ⟨e, cl.length, ?_, by simpa using g4⟩, ?_⟩
                      · simp only [World.shape?, ← e3, wBlk_same _ hlt, List.size_toArray, hspl]
                      · have hr : rd { S with nt := S.nt + 1, tip := (S.nt, some (xs'.length + (y0 :: ys).length, e, sf)) :: (tk, none) :: S.tip } ⟨some (S.nt, ln), 0, none, false⟩ = .here := by
                          unfold rd
                          simp only [h.inv.kMv S.nt (Nat.le_refl _), hmd.2]
                        rw [hr]
                        simp only [upd_same, ← e3]
                        exact ⟨Nat.lt_succ_self _, e2, trivial, by rw [hq0]; simp, by rw [hq0]; simp⟩
                    · cases hq
                      rw [hq0]
                      exact Rat.ofCells hrl hall hnb
              · cases happ
            · cases happ
        · cases happ
      · cases happ
    · cases hs
  · cases hs
end
end Go.Dn
