/- Functions: what the abstract code says of a call is what the call does. -/
import Derived.Test.YtinhgnepnkbpcaaGreatDoorDnD
set_option linter.unusedSimpArgs false
set_option linter.unusedVariables false
namespace Go.Dn
open Go Go.RowKit

section
variable {P : Program} {gt : GT} {O : Orig}

theorem list4 {α : Type} {l : List α} (h : l.length = 4) : ∃ a b c d, l = [a, b, c, d] := by
  rcases l with _ | ⟨a, _ | ⟨b, _ | ⟨c, _ | ⟨d, _ | ⟨e, l⟩⟩⟩⟩⟩ <;> simp at h
  exact ⟨a, b, c, d, rfl⟩

theorem Sd.ndet {N : Lim} {id : Nat} {ops : Array Oper} {locs : List Nat} {is : List DI} (hm : P.follows .mixedOrders = true) (hnd : ndetP ops = true) (h : prepIs P N locs true ops ops.toList = some is) (ks : List Nat) : Sd P gt N (.region id ops true) (.ndet is ks) := by
  intro O S G w env a QD hpi hN hg hw
  refine wp_mono (Q := Qc P gt O fun e env S => QD e (keepE env ks) S) (wp_region_any hm ?_) (Qc.mono fun S G w env a e g q => ⟨_, g.keepE ks, q⟩)
  have hg' : Good P gt O S G { w with drawn := w.drawn + 1 } env a := hg.step (Tr.gr hg.inv (Gr.drew w _))
  generalize { w with drawn := w.drawn + 1 } = w' at hg'
  unfold ndetP at hnd
  split at hnd
  · rename_i oa ob oc od hops
    obtain ⟨hlen, hget⟩ := prepIs_get h
    rw [hops] at hlen hget
    obtain ⟨ia, ib, ic, id', rfl⟩ := list4 hlen
    have hsz : ops.size = 4 := by rw [← Array.length_toList, hops]; rfl
    have g0 : ops[0]? = some oa := by rw [← Array.getElem?_toList, hops]; rfl
    have g1 : ops[1]? = some ob := by rw [← Array.getElem?_toList, hops]; rfl
    have g2 : ops[2]? = some oc := by rw [← Array.getElem?_toList, hops]; rfl
    have g3 : ops[3]? = some od := by rw [← Array.getElem?_toList, hops]; rfl
    obtain ⟨_, e0, p0⟩ := hget 0 ia rfl
    obtain ⟨_, e1, p1⟩ := hget 1 ib rfl
    obtain ⟨_, e2, p2⟩ := hget 2 ic rfl
    obtain ⟨_, e3, p3⟩ := hget 3 id' rfl
    simp at e0 e1 e2 e3
    subst e0; subst e1; subst e2; subst e3
    split at hnd
    · simp only [Bool.and_eq_true, Bool.not_eq_true', List.isEmpty_iff, List.isEmpty_eq_false_iff] at hnd
      obtain ⟨⟨⟨⟨⟨⟨⟨ha, hb⟩, hb0⟩, hc⟩, hc0⟩, hd1⟩, hd2⟩, hd3⟩ := hnd
      have all_of : ∀ (o : Oper) (L : Nat → Bool), (o.after.all fun e => !Region.binds .any e || L e.on) = (bindOn o).all L := fun o L => by
        unfold bindOn
        rw [← Array.all_toList, List.all_map, List.all_filter]
        congr 1
      have hready : ∀ L : Array Bool, Region.ready .any ops L = (List.range 4).filter fun i => !L.getD i true && (match i with | 0 => (bindOn oa).all (L.getD · false) | 1 => (bindOn ob).all (L.getD · false) | 2 => (bindOn oc).all (L.getD · false) | 3 => (bindOn od).all (L.getD · false) | _ => false) := fun L => by
        unfold Region.ready
        rw [hsz]
        apply List.filter_congr
        intro i hi
        have hi4 : i < 4 := List.mem_range.1 hi
        congr 1
        match i, hi4 with
        | 0, _ => rw [g0]; exact all_of oa (L.getD · false)
        | 1, _ => rw [g1]; exact all_of ob (L.getD · false)
        | 2, _ => rw [g2]; exact all_of oc (L.getD · false)
        | 3, _ => rw [g3]; exact all_of od (L.getD · false)
      have all0 : ∀ {l : List Nat} {L : Array Bool}, l.all (Nat.beq 0) = true → l ≠ [] → l.all (L.getD · false) = L.getD 0 false := fun {l L} h1 h2 => by
        have he : ∀ x ∈ l, x = 0 := fun x hx => (Nat.eq_of_beq_eq_true (List.all_eq_true.1 h1 x hx)).symm
        cases hL : L.getD 0 false with
        | true => exact List.all_eq_true.2 fun x hx => by rw [he x hx]; exact hL
        | false =>
          cases l with
          | nil => exact absurd rfl h2
          | cons x l => rw [List.all_cons, he x (by simp), hL]; rfl
      have hd_no : ∀ {L : Array Bool}, (L.getD 1 false = false ∨ L.getD 2 false = false) → (bindOn od).all (L.getD · false) = false := fun {L} hh => by
        rw [Bool.eq_false_iff]
        intro hall
        have hall := List.all_eq_true.1 hall
        obtain ⟨x, hx, hx1⟩ := List.any_eq_true.1 hd1
        obtain ⟨y, hy, hy1⟩ := List.any_eq_true.1 hd2
        have hx1 := Nat.eq_of_beq_eq_true hx1
        have hy1 := Nat.eq_of_beq_eq_true hy1
        subst hx1; subst hy1
        rcases hh with hh | hh
        · have := hall _ hx; rw [hh] at this; cases this
        · have := hall _ hy; rw [hh] at this; cases this
      have hd_yes : ∀ {L : Array Bool}, L.getD 0 false = true → L.getD 1 false = true → L.getD 2 false = true → (bindOn od).all (L.getD · false) = true := fun {L} h0 h1 h2 => by
        refine List.all_eq_true.2 fun x hx => ?_
        have := Nat.le_of_ble_eq_true (List.all_eq_true.1 hd3 x hx)
        match x, this with
        | 0, _ => exact h0
        | 1, _ => exact h1
        | 2, _ => exact h2
      have rdy : ∀ b0 b1 b2 b3 : Bool, Region.ready .any ops #[b0, b1, b2, b3] = [0, 1, 2, 3].filter fun i => !(#[b0, b1, b2, b3] : Array Bool).getD i true && (match i with | 0 => true | 1 => b0 | 2 => b0 | 3 => (bindOn od).all ((#[b0, b1, b2, b3] : Array Bool).getD · false) | _ => false) := fun b0 b1 b2 b3 => by
        rw [hready]
        show List.filter _ [0, 1, 2, 3] = _
        apply List.filter_congr
        intro i hi
        congr 1
        match i with
        | 0 => simp [ha]
        | 1 => exact all0 hb hb0
        | 2 => exact all0 hc hc0
        | 3 => rfl
        | i + 4 => rfl
      have r0 : Region.ready .any ops #[false, false, false, false] = [0] := by
        have hf := hd_no (L := #[false, false, false, false]) (.inl rfl)
        rw [rdy]; simp only [hf]; rfl
      have r1 : Region.ready .any ops #[true, false, false, false] = [1, 2] := by
        have hf := hd_no (L := #[true, false, false, false]) (.inl rfl)
        rw [rdy]; simp only [hf]; rfl
      have r2 : Region.ready .any ops #[true, true, false, false] = [2] := by
        have hf := hd_no (L := #[true, true, false, false]) (.inr rfl)
        rw [rdy]; simp only [hf]; rfl
      have r2' : Region.ready .any ops #[true, false, true, false] = [1] := by
        have hf := hd_no (L := #[true, false, true, false]) (.inl rfl)
        rw [rdy]; simp only [hf]; rfl
      have r3 : Region.ready .any ops #[true, true, true, false] = [3] := by
        have hf := hd_yes (L := #[true, true, true, false]) rfl rfl rfl
        rw [rdy]; simp only [hf]; rfl
      have r4 : Region.ready .any ops #[true, true, true, true] = [] := by rw [rdy]; rfl
      rw [hsz]
      show wpAny P .any ops _ 4 #[false, false, false, false] a w'
      simp only [wpD] at hw
      have fin : ∀ S G w env a, Good P gt O S G w env a → QD .normal (keepE env ks) S → wpAny P .any ops (Qc P gt O fun e env S => QD e (keepE env ks) S) 0 #[true, true, true, true] a w := fun S G w env a hg hq => ⟨r4, ⟨_, S, G, hg, hq⟩⟩
      have l3 : ∀ S G w env a, Good P gt O S G w env a → afterS (AC P gt) id'.dst env S (fun env' S' => QD .normal (keepE env' ks) S') (fun e env S => QD e (keepE env ks) S) (stepI gt id' env S) →
          wpAny P .any ops (Qc P gt O fun e env S => QD e (keepE env ks) S) 1 #[true, true, true, false] a w := fun S G w env a hg hq => by
        refine ⟨fun e => (by rw [r3] at e; cases e), fun i hi => ?_⟩
        rw [r3] at hi
        simp only [List.mem_singleton] at hi; subst hi
        exact wpOp_row hN g3 p3 hg hq fun env' S' G' w' a' g q => fin _ _ _ _ _ g q
      refine ⟨fun e => (by rw [r0] at e; cases e), fun i hi => ?_⟩
      rw [r0] at hi
      simp only [List.mem_singleton] at hi; subst hi
      refine wpOp_row hN g0 p0 hg' hw fun env1 S1 G1 w1 a1 hg1 q1 => ?_
      obtain ⟨q1, q2⟩ := q1
      simp only [wpIs] at q1 q2
      refine ⟨fun e => (by rw [show (#[false, false, false, false] : Array Bool).setIfInBounds 0 true = #[true, false, false, false] from rfl, r1] at e; cases e), fun i hi => ?_⟩
      rw [show (#[false, false, false, false] : Array Bool).setIfInBounds 0 true = #[true, false, false, false] from rfl, r1] at hi
      simp only [List.mem_cons, List.not_mem_nil, or_false] at hi
      rcases hi with hi | hi
      · subst hi
        refine wpOp_row hN g1 p1 hg1 q1 fun env2 S2 G2 w2 a2 hg2 q2 => ?_
        refine ⟨fun e => (by rw [show ((#[false, false, false, false] : Array Bool).setIfInBounds 0 true).setIfInBounds 1 true = #[true, true, false, false] from rfl, r2] at e; cases e), fun i hi => ?_⟩
        rw [show ((#[false, false, false, false] : Array Bool).setIfInBounds 0 true).setIfInBounds 1 true = #[true, true, false, false] from rfl, r2] at hi
        simp only [List.mem_singleton] at hi; subst hi
        exact wpOp_row hN g2 p2 hg2 q2 fun env3 S3 G3 w3 a3 hg3 q3 => l3 _ _ _ _ _ hg3 q3
      · subst hi
        refine wpOp_row hN g2 p2 hg1 q2 fun env2 S2 G2 w2 a2 hg2 q2 => ?_
        refine ⟨fun e => (by rw [show ((#[false, false, false, false] : Array Bool).setIfInBounds 0 true).setIfInBounds 2 true = #[true, false, true, false] from rfl, r2'] at e; cases e), fun i hi => ?_⟩
        rw [show ((#[false, false, false, false] : Array Bool).setIfInBounds 0 true).setIfInBounds 2 true = #[true, false, true, false] from rfl, r2'] at hi
        simp only [List.mem_singleton] at hi; subst hi
        exact wpOp_row hN g1 p1 hg2 q2 fun env3 S3 G3 w3 a3 hg3 q3 => l3 _ _ _ _ _ hg3 q3
    · cases hnd
  · cases hnd

theorem prepC_block {N : Lim} {n : Note} {id : Nat} {c : Code} (h : ∀ c', c ≠ .loop c') : prepC P N n (.block id c) = (prepC P N n c).map (.blk id) := by
  cases c <;> first | rfl | exact absurd rfl (h _)

theorem Sd.fail {N : Lim} {c : Code} : Sd P gt N c .fail := fun O S G w env a QD hpi hN hg hw => hw.elim

theorem prepC_sound2 (hm : P.follows .mixedOrders = true) {N : Lim} {n : Note} (c : Code) : (∀ {D : DC}, prepC P N n c = some D → Sd P gt N c D) ∧ ∀ c', c = .loop c' → ∀ {D : DC}, prepC P N n c' = some D → Sd P gt N c' D := by
  induction c with
  | skip =>
    refine ⟨fun h => ?_, fun c' e => by cases e⟩
    simp only [prepC, Option.some.injEq] at h; subst h
    intro O S G w env a QD hpi hN hg hw
    exact wp_skip ⟨env, S, G, hg, hw⟩
  | region id ops draw =>
    refine ⟨fun h => ?_, fun c' e => by cases e⟩
    cases draw with
    | false =>
      simp only [prepC] at h
      split at h
      · rename_i is his
        simp only [Option.some.injEq] at h; subst h
        exact Sd.reg his _
      · simp only [Option.some.injEq] at h; subst h
        exact Sd.fail
    | true =>
      simp only [prepC] at h
      split at h
      · rename_i hnd
        split at h
        · rename_i is his
          simp only [Option.some.injEq] at h; subst h
          exact Sd.ndet hm hnd his _
        · simp only [Option.some.injEq] at h; subst h
          exact Sd.fail
      · split at h
        · rename_i is anc his hanc
          split at h
          · rename_i rows hr
            simp only [Option.some.injEq] at h; subst h
            exact Sd.drw hm his hanc hr _
          · simp only [Option.some.injEq] at h; subst h
            exact Sd.fail
        · simp only [Option.some.injEq] at h; subst h
          exact Sd.fail
  | seq a b iha ihb =>
    refine ⟨fun h => ?_, fun c' e => by cases e⟩
    simp only [prepC] at h
    split at h
    · rename_i da db ha hb
      simp only [Option.some.injEq] at h; subst h
      exact (iha.1 ha).seq (ihb.1 hb)
    · cases h
  | cond x a b iha ihb =>
    refine ⟨fun h => ?_, fun c' e => by cases e⟩
    simp only [prepC] at h
    split at h
    · rename_i dx da db hx ha hb
      simp only [Option.some.injEq] at h; subst h
      exact Sd.cond hx (iha.1 ha) (ihb.1 hb)
    · cases h
  | block id c ih =>
    refine ⟨fun h => ?_, fun c' e => by cases e⟩
    by_cases hl : ∃ c', c = .loop c'
    · obtain ⟨c', rfl⟩ := hl
      simp only [prepC] at h
      obtain ⟨d, hd, rfl⟩ := map_some' h
      exact ((((ih.2 c' rfl hd).trim _).loop).trim0 _).block id
    · rw [prepC_block (fun c' e => hl ⟨c', e⟩)] at h
      obtain ⟨d, hd, rfl⟩ := map_some' h
      exact (ih.1 hd).block id
  | loop c ih =>
    refine ⟨fun h => ?_, fun c' e => by cases e; exact ih.1⟩
    simp only [prepC] at h
    obtain ⟨d, hd, rfl⟩ := map_some' h
    exact (ih.1 hd).loop
  | exit id =>
    refine ⟨fun h => ?_, fun c' e => by cases e⟩
    simp only [prepC, Option.some.injEq] at h; subst h
    intro O S G w env a QD hpi hN hg hw
    exact wp_exit ⟨env, S, G, hg, hw⟩
  | ret =>
    refine ⟨fun h => ?_, fun c' e => by cases e⟩
    simp only [prepC, Option.some.injEq] at h; subst h
    intro O S G w env a QD hpi hN hg hw
    exact wp_ret ⟨env, S, G, hg, hw⟩
  | _ =>
    refine ⟨fun h => ?_, fun c' e => by cases e⟩
    simp only [prepC, Option.some.injEq] at h; subst h
    exact Sd.fail

theorem prepC_sound (hm : P.follows .mixedOrders = true) {N : Lim} {n : Note} {c : Code} {D : DC} (h : prepC P N n c = some D) : Sd P gt N c D := (prepC_sound2 hm c).1 h
end
end Go.Dn
