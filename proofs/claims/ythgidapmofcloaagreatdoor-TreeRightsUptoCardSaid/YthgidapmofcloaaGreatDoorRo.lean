/- Times: the reference's dates are the program's. Times: the reference's times of a day are the program's. Times: the reference's Time, walked. Times: the reference's Time is the program's. The reference's functions that laws about trees reach, as contracts, each by its code. What is read is right where little is read. 'emendlaw3.TreeRights' as a contract. The row of 'emendlaw3.TreeRights': what is read, and that the call returns true. -/
import Derived.Test.YthgidapmofcloaaGreatDoorTie
import Derived.Test.YthgidapmofcloaaGreatDoorCards
import Derived.ProofKit
import Derived.LaidMore
import Derived.OpenShut
import Derived.Carry
import Derived.Stop.Joined
import Derived.Lay
import Derived.SevenTiedAt
import Derived.Deep.DeepHandedRow
import Derived.Deep.DeepWitnessRowRef
import Derived.Test.YthgidapmofcloaaGreatDoorRn
set_option linter.unusedSimpArgs false
set_option linter.unusedVariables false
namespace Go.Dn
open Go Go.Proofs.C1
set_option maxRecDepth 100000
attribute [local irreducible] afterS keepE

theorem ten {s : List UInt8} (h : s.length = 10) : ∃ b0 b1 b2 b3 b4 b5 b6 b7 b8 b9, s = [b0, b1, b2, b3, b4, b5, b6, b7, b8, b9] := by
  match s, h with
  | [b0, b1, b2, b3, b4, b5, b6, b7, b8, b9], _ => exact ⟨b0, b1, b2, b3, b4, b5, b6, b7, b8, b9, rfl⟩

theorem twoB_ok (a b : UInt8) : (0 ≤ twoB [a, b] ↔ dig a = true ∧ dig b = true) ∧ (dig a = true ∧ dig b = true → twoB [a, b] = ((a.toNat : Int) - 48) * 10 + ((b.toNat : Int) - 48)) := by
  simp only [twoB]
  by_cases h : dig a = true ∧ dig b = true
  · rw [if_pos h]
    have h1 := dig_iff.1 h.1
    have h2 := dig_iff.1 h.2
    exact ⟨⟨fun _ => h, fun _ => by omega⟩, fun _ => rfl⟩
  · rw [if_neg h]
    exact ⟨⟨fun h' => by omega, fun h' => absurd h' h⟩, fun h' => absurd h' h⟩

theorem dig4 (a b c d : UInt8) : digL 4 [a, b, c, d] = if 0 ≤ twoB [a, b] ∧ 0 ≤ twoB [c, d] then twoB [a, b] * 100 + twoB [c, d] else -1 := by
  unfold digL
  have e : ([a, b, c, d].all dig = true) ↔ (dig a = true ∧ dig b = true) ∧ (dig c = true ∧ dig d = true) := by
    simp only [List.all_cons, List.all_nil, Bool.and_true, Bool.and_eq_true, and_assoc]
  obtain ⟨p1, p2⟩ := twoB_ok a b
  obtain ⟨q1, q2⟩ := twoB_ok c d
  by_cases h : (dig a = true ∧ dig b = true) ∧ (dig c = true ∧ dig d = true)
  · rw [if_pos ⟨rfl, e.2 h⟩, if_pos ⟨p1.2 h.1, q1.2 h.2⟩, p2 h.1, q2 h.2]
    have h1 := dig_iff.1 h.1.1
    have h2 := dig_iff.1 h.1.2
    have h3 := dig_iff.1 h.2.1
    have h4 := dig_iff.1 h.2.2
    rw [valB_cons, valB_cons, valB_cons, valB_cons, valB_nil]
    omega
  · rw [if_neg fun x => h (e.1 x.2), if_neg fun x => h ⟨p1.1 x.1, q1.1 x.2⟩]

theorem dateB_10 (b0 b1 b2 b3 b4 b5 b6 b7 b8 b9 : UInt8) : dateB [b0, b1, b2, b3, b4, b5, b6, b7, b8, b9] =
    ((b4 == 45) && ((b7 == 45) && (decide (0 ≤ digI [b0, b1, b2, b3, b4, b5, b6, b7, b8, b9] 0 4) && (decide (1 ≤ digI [b0, b1, b2, b3, b4, b5, b6, b7, b8, b9] 5 2) && (decide (digI [b0, b1, b2, b3, b4, b5, b6, b7, b8, b9] 5 2 ≤ 12) && (decide (1 ≤ digI [b0, b1, b2, b3, b4, b5, b6, b7, b8, b9] 8 2) &&
      decide (digI [b0, b1, b2, b3, b4, b5, b6, b7, b8, b9] 8 2 ≤ daysB (digI [b0, b1, b2, b3, b4, b5, b6, b7, b8, b9] 0 4) (digI [b0, b1, b2, b3, b4, b5, b6, b7, b8, b9] 5 2)))))))) := by
  have e1 : digI [b0, b1, b2, b3, b4, b5, b6, b7, b8, b9] 0 4 = if 0 ≤ twoB [b0, b1] ∧ 0 ≤ twoB [b2, b3] then twoB [b0, b1] * 100 + twoB [b2, b3] else -1 := dig4 b0 b1 b2 b3
  have e2 : digI [b0, b1, b2, b3, b4, b5, b6, b7, b8, b9] 5 2 = twoB [b5, b6] := digI_two _ 5
  have e3 : digI [b0, b1, b2, b3, b4, b5, b6, b7, b8, b9] 8 2 = twoB [b8, b9] := digI_two _ 8
  have e4 : dateB [b0, b1, b2, b3, b4, b5, b6, b7, b8, b9] = ((b4 == 45) && ((b7 == 45) && (decide (0 ≤ twoB [b0, b1]) && (decide (0 ≤ twoB [b2, b3]) && ((decide (twoB [b5, b6] ≥ 1) && decide (twoB [b5, b6] ≤ 12)) && (decide (twoB [b8, b9] ≥ 1) && decide (twoB [b8, b9] ≤ daysB (twoB [b0, b1] * 100 + twoB [b2, b3]) (twoB [b5, b6])))))))) := rfl
  rw [e1, e2, e3, e4]
  generalize twoB [b0, b1] = y1
  generalize twoB [b2, b3] = y2
  generalize twoB [b5, b6] = m
  generalize twoB [b8, b9] = d
  by_cases h1 : 0 ≤ y1
  · by_cases h2 : 0 ≤ y2
    · rw [if_pos ⟨h1, h2⟩, decide_eq_true h1, decide_eq_true h2, decide_eq_true (show 0 ≤ y1 * 100 + y2 by omega)]
      simp only [Bool.true_and, Bool.and_assoc, ge_iff_le]
    · rw [if_neg fun h => h2 h.2, decide_eq_false h2, decide_eq_false (show ¬ (0 : Int) ≤ -1 by omega)]
      simp only [Bool.false_and, Bool.and_false]
  · rw [if_neg fun h => h1 h.1, decide_eq_false h1, decide_eq_false (show ¬ (0 : Int) ≤ -1 by omega)]
    simp only [Bool.false_and, Bool.and_false]

section
variable {gt : GT} {C : CallT}

set_option maxHeartbeats 8000000 in
/-- behind the numbers of year, month and day -/
theorem dateEnd_wp (hm : MonoC C) {y m d : Int} {z : Env} {res : Bool} (hf : res = (decide (0 ≤ y) && (decide (1 ≤ m) && (decide (m ≤ 12) && (decide (1 ≤ d) && decide (d ≤ daysB y m)))))) :
    wpD gt C F109.body.rt.rt.rt.rt.rt ((3, .val (.int .i64 y)) :: (4, .val (.int .i64 m)) :: (5, .val (.int .i64 d)) :: z) St.init (bodyQ gt F109.res (Ret (.bool res))) := by
  have ret : ∀ {o : Bool} {S : St}, res = o → Ret (.bool res) (.ret (.bool o)) S := fun h => by rw [h]; exact Ret.sta trivial
  conv => whnf
  refine goW ?_
  by_cases y0 : y < 0
  · rw [decide_eq_true y0]
    refine goW ?_
    exact ⟨_, rfl, ret (by rw [hf, decide_eq_false (by omega)]; rfl)⟩
  rw [decide_eq_false y0]
  rw [decide_eq_true (show 0 ≤ y by omega), Bool.true_and] at hf
  refine goW ?_
  by_cases m0 : m < 1
  · rw [decide_eq_true m0]
    refine goW ?_
    exact ⟨_, rfl, ret (by rw [hf, decide_eq_false (by omega)]; rfl)⟩
  rw [decide_eq_false m0]
  rw [decide_eq_true (show 1 ≤ m by omega), Bool.true_and] at hf
  refine goW ?_
  by_cases m1 : m > 12
  · rw [decide_eq_true m1]
    refine goW ?_
    exact ⟨_, rfl, ret (by rw [hf, decide_eq_false (by omega)]; rfl)⟩
  rw [decide_eq_false m1]
  rw [decide_eq_true (show m ≤ 12 by omega), Bool.true_and] at hf
  refine goW ?_
  by_cases d0 : d < 1
  · rw [decide_eq_true d0]
    refine goW ?_
    exact ⟨_, rfl, ret (by rw [hf, decide_eq_false (by omega)]; rfl)⟩
  rw [decide_eq_false d0]
  rw [decide_eq_true (show 1 ≤ d by omega), Bool.true_and] at hf
  unfold daysB at hf
  refine goW ?_
  by_cases m4 : m = 4
  · rw [eqI_true m4]
    rw [if_pos (.inl m4)] at hf
    refine goW ?_
    rw [eqI_false (show ¬ m = 2 by omega)]
    refine goW ?_
    exact ⟨_, rfl, ret hf⟩
  rw [eqI_false m4]
  refine goW ?_
  by_cases m6 : m = 6
  · rw [eqI_true m6]
    rw [if_pos (.inr (.inl m6))] at hf
    refine goW ?_
    rw [eqI_false (show ¬ m = 2 by omega)]
    refine goW ?_
    exact ⟨_, rfl, ret hf⟩
  rw [eqI_false m6]
  refine goW ?_
  by_cases m9 : m = 9
  · rw [eqI_true m9]
    rw [if_pos (.inr (.inr (.inl m9)))] at hf
    refine goW ?_
    rw [eqI_false (show ¬ m = 2 by omega)]
    refine goW ?_
    exact ⟨_, rfl, ret hf⟩
  rw [eqI_false m9]
  refine goW ?_
  by_cases m11 : m = 11
  · rw [eqI_true m11]
    rw [if_pos (.inr (.inr (.inr m11)))] at hf
    refine goW ?_
    rw [eqI_false (show ¬ m = 2 by omega)]
    refine goW ?_
    exact ⟨_, rfl, ret hf⟩
  rw [eqI_false m11]
  rw [if_neg (by omega)] at hf
  refine goW ?_
  by_cases m2 : m = 2
  case neg =>
    rw [eqI_false m2]
    rw [if_neg m2] at hf
    refine goW ?_
    exact ⟨_, rfl, ret hf⟩
  rw [eqI_true m2]
  rw [if_pos m2] at hf
  refine goW ?_
  by_cases c4 : y.tmod 4 = 0
  case neg =>
    rw [eqI_false c4]
    rw [if_neg fun h => c4 h.1] at hf
    refine goW ?_
    exact ⟨_, rfl, ret hf⟩
  rw [eqI_true c4]
  refine goW ?_
  by_cases c100 : y.tmod 100 = 0
  case neg =>
    rw [neI_true c100]
    rw [if_pos ⟨c4, .inl c100⟩] at hf
    refine goW ?_
    exact ⟨_, rfl, ret hf⟩
  rw [neI_false c100]
  refine goW ?_
  by_cases c400 : y.tmod 400 = 0
  · rw [eqI_true c400]
    rw [if_pos ⟨c4, .inr c400⟩] at hf
    refine goW ?_
    exact ⟨_, rfl, ret hf⟩
  · rw [eqI_false c400]
    rw [if_neg (by rintro ⟨_, h | h⟩; exact h c100; exact c400 h)] at hf
    refine goW ?_
    exact ⟨_, rfl, ret hf⟩

set_option maxHeartbeats 8000000 in
theorem date3_wp (hm : MonoC C) (hdg : ∀ (s : List UInt8) (a n : Nat), a < 4611686018427387904 → n ≤ 9 → s.length < 4611686018427387904 → PF C 111 [.str s, .int .i64 a, .int .i64 n] (.int .i64 (digI s a n)))
    {s : List UInt8} : wpF gt C F109 [.str s] St.init (Ret (.bool (dateB s))) := by
  refine ⟨rfl, ?_⟩
  refine goW ?_
  by_cases h10 : s.length = 10
  case neg =>
    rw [neI_true (show ¬ ((s.length : Nat) : Int) = 10 by omega)]
    refine goW ?_
    refine ⟨_, rfl, ?_⟩
    rw [show dateB s = false by unfold dateB; rw [decide_eq_false h10]; rfl]
    exact Ret.sta trivial
  rw [neI_false (show ((s.length : Nat) : Int) = 10 by omega)]
  have d1 := hdg s 0 4 (by omega) (by omega) (by omega)
  have d2 := hdg s 5 2 (by omega) (by omega) (by omega)
  have d3 := hdg s 8 2 (by omega) (by omega) (by omega)
  obtain ⟨b0, b1, b2, b3, b4, b5, b6, b7, b8, b9, rfl⟩ := ten h10
  have hf := dateB_10 b0 b1 b2 b3 b4 b5 b6 b7 b8 b9
  generalize dateB [b0, b1, b2, b3, b4, b5, b6, b7, b8, b9] = res at hf ⊢
  have ret : ∀ {o : Bool} {S : St}, res = o → Ret (.bool res) (.ret (.bool o)) S := fun h => by rw [h]; exact Ret.sta trivial
  generalize digI [b0, b1, b2, b3, b4, b5, b6, b7, b8, b9] 0 4 = y at hf d1
  generalize digI [b0, b1, b2, b3, b4, b5, b6, b7, b8, b9] 5 2 = m at hf d2
  generalize digI [b0, b1, b2, b3, b4, b5, b6, b7, b8, b9] 8 2 = d at hf d3
  refine goW ?_
  rw [show ((b4.toNat : Int) != 45) = !(b4 == 45) from u8_neI b4 45]
  cases h4 : (b4 == 45) with
  | false =>
    refine goW ?_
    exact ⟨_, rfl, ret (by rw [hf, h4]; rfl)⟩
  | true =>
  rw [h4, Bool.true_and] at hf
  refine goW ?_
  rw [show ((b7.toNat : Int) != 45) = !(b7 == 45) from u8_neI b7 45]
  cases h7 : (b7 == 45) with
  | false =>
    refine goW ?_
    exact ⟨_, rfl, ret (by rw [hf, h7]; rfl)⟩
  | true =>
  rw [h7, Bool.true_and] at hf
  refine goW ?_
  refine call_pf hm (by rfl) d1 ?_
  refine goW ?_
  refine call_pf hm (by rfl) d2 ?_
  refine goW ?_
  refine call_pf hm (by rfl) d3 ?_
  have fin := fun z => dateEnd_wp (gt := gt) (z := z) hm hf
  refine goK ?_
  with_unfolding_all exact fin []
end
end Go.Dn

namespace Go.Dn
open Go Go.Proofs.C1
set_option maxRecDepth 100000
attribute [local irreducible] afterS keepE

theorem tenD_all : (List.range 256).all (fun n => tenD.contains (UInt8.ofNat n) == dig (UInt8.ofNat n)) = true := by kernel_rfl
theorem tenD_dig (b : UInt8) : tenD.contains b = dig b := by
  have := List.all_eq_true.1 tenD_all b.toNat (List.mem_range.2 (u8_lt b))
  rwa [UInt8.ofNat_toNat, beq_iff_eq] at this

theorem trimA_nil {cs t : List UInt8} : trimA cs t = [] ↔ ∀ x ∈ t, cs.contains x = true := by
  unfold trimA
  constructor
  · intro h
    rw [(trim_comm cs t).1] at h
    cases ht : trimL cs t with
    | nil => exact dropW_nil.1 ht
    | cons b r =>
      exfalso
      rw [ht] at h
      have hb : cs.contains b = false := by
        have := List.head_dropWhile_not (p := (cs.contains ·)) (l := t) (by show trimL cs t ≠ []; rw [ht]; simp)
        have e : t.dropWhile (cs.contains ·) = b :: r := ht
        simp only [e, List.head_cons] at this
        exact this
      exact (trimR_head hb).1 h
  · intro h
    rw [trimR_all h]; rfl

theorem frac_iff {s : List UInt8} (h1 : 10 ≤ s.length) : decide (0 ≤ digI s 9 (s.length - 9)) = beqB (trimA tenD (s.drop 9)) [] := by
  have hl : (s.drop 9).length = s.length - 9 := List.length_drop
  unfold digI
  rw [List.take_of_length_le (by omega)]
  generalize s.drop 9 = t at hl ⊢
  unfold digL
  rw [Bool.eq_iff_iff, beqB_iff, trimA_nil, decide_eq_true_eq]
  have e : (t.all dig = true) ↔ ∀ x ∈ t, tenD.contains x = true := by
    rw [List.all_eq_true]
    exact ⟨fun h x hx => by rw [tenD_dig]; exact h x hx, fun h x hx => by rw [← tenD_dig]; exact h x hx⟩
  rw [← e]
  by_cases ha : t.all dig = true
  · rw [if_pos ⟨hl, ha⟩]
    generalize valB 0 t = v
    exact ⟨fun _ => ha, fun _ => by omega⟩
  · rw [if_neg fun h => ha h.2]
    exact ⟨fun h => by omega, fun h => absurd h ha⟩

section
variable {gt : GT} {C : CallT}

set_option maxHeartbeats 8000000 in
theorem clock3_wp (hm : MonoC C) (hdg : ∀ (s : List UInt8) (a n : Nat), a < 4611686018427387904 → n ≤ 9 → s.length < 4611686018427387904 → PF C 111 [.str s, .int .i64 a, .int .i64 n] (.int .i64 (digI s a n)))
    {s : List UInt8} (hsl : s.length < 4611686018427387904) : wpF gt C F110 [.str s] St.init (Ret (.bool (clockB s))) := by
  have hf : clockB s = (decide (8 ≤ s.length) && (atB s 2 58 && (atB s 5 58 && ((decide (digI s 0 2 ≥ 0) && decide (digI s 0 2 ≤ 23)) && ((decide (digI s 3 2 ≥ 0) && decide (digI s 3 2 ≤ 59)) && ((decide (digI s 6 2 ≥ 0) && decide (digI s 6 2 ≤ 59)) &&
    (decide (s.length = 8) || (atB s 8 46 && (decide (1 ≤ (s.drop 9).length) && (decide ((s.drop 9).length ≤ 9) && beqB (trimA tenD (s.drop 9)) [])))))))))) := by
    rw [digI_two, digI_two, digI_two]; rfl
  have d1 := hdg s 0 2 (by omega) (by omega) hsl
  have d2 := hdg s 3 2 (by omega) (by omega) hsl
  have d3 := hdg s 6 2 (by omega) (by omega) hsl
  have hd9 : (s.drop 9).length = s.length - 9 := List.length_drop
  have hfr := @frac_iff s
  have d4 := fun h => hdg s 9 (s.length - 9) (by omega) h hsl
  generalize clockB s = res at hf ⊢
  have ret : ∀ {o : Bool} {S : St}, res = o → Ret (.bool res) (.ret (.bool o)) S := fun h => by rw [h]; exact Ret.sta trivial
  generalize digI s 0 2 = h at hf d1
  generalize digI s 3 2 = m at hf d2
  generalize digI s 6 2 = c at hf d3
  generalize digI s 9 (s.length - 9) = fr at hfr d4
  refine ⟨rfl, ?_⟩
  refine goW ?_
  by_cases h8 : (s.length : Int) < 8
  · rw [decide_eq_true h8]
    refine goW ?_
    exact ⟨_, rfl, ret (by rw [hf, decide_eq_false (by omega)]; rfl)⟩
  rw [decide_eq_false h8]
  rw [decide_eq_true (show 8 ≤ s.length by omega), Bool.true_and] at hf
  obtain ⟨b2, hb2⟩ : ∃ b, s[2]? = some b := ⟨_, List.getElem?_eq_getElem (by omega)⟩
  obtain ⟨b5, hb5⟩ : ∃ b, s[5]? = some b := ⟨_, List.getElem?_eq_getElem (by omega)⟩
  rw [atB_get hb2, atB_get hb5] at hf
  refine goW ?_
  refine st_any (by exact rfl) (sx_ixS (k := 2) rfl rfl hb2) ?_
  refine goW ?_
  rw [show ((b2.toNat : Int) != 58) = !(b2 == 58) from u8_neI b2 58]
  cases h2 : (b2 == 58) with
  | false =>
    refine goW ?_
    exact ⟨_, rfl, ret (by rw [hf, h2]; rfl)⟩
  | true =>
  rw [h2, Bool.true_and] at hf
  refine goW ?_
  refine st_any (by exact rfl) (sx_ixS (k := 5) rfl rfl hb5) ?_
  refine goW ?_
  rw [show ((b5.toNat : Int) != 58) = !(b5 == 58) from u8_neI b5 58]
  cases h5 : (b5 == 58) with
  | false =>
    refine goW ?_
    exact ⟨_, rfl, ret (by rw [hf, h5]; rfl)⟩
  | true =>
  rw [h5, Bool.true_and] at hf
  refine goW ?_
  refine call_pf hm (by rfl) d1 ?_
  refine goW ?_
  refine call_pf hm (by rfl) d2 ?_
  refine goW ?_
  refine call_pf hm (by rfl) d3 ?_
  refine goW ?_
  by_cases q1 : h < 0
  · rw [decide_eq_true q1]
    refine goW ?_
    exact ⟨_, rfl, ret (by rw [hf, decide_eq_false (show ¬ h ≥ 0 by omega)]; rfl)⟩
  rw [decide_eq_false q1]
  rw [decide_eq_true (show h ≥ 0 by omega), Bool.true_and] at hf
  refine goW ?_
  by_cases q2 : h > 23
  · rw [decide_eq_true q2]
    refine goW ?_
    exact ⟨_, rfl, ret (by rw [hf, decide_eq_false (show ¬ h ≤ 23 by omega)]; rfl)⟩
  rw [decide_eq_false q2]
  rw [decide_eq_true (show h ≤ 23 by omega), Bool.true_and] at hf
  refine goW ?_
  by_cases q3 : m < 0
  · rw [decide_eq_true q3]
    refine goW ?_
    exact ⟨_, rfl, ret (by rw [hf, decide_eq_false (show ¬ m ≥ 0 by omega)]; rfl)⟩
  rw [decide_eq_false q3]
  rw [decide_eq_true (show m ≥ 0 by omega), Bool.true_and] at hf
  refine goW ?_
  by_cases q4 : m > 59
  · rw [decide_eq_true q4]
    refine goW ?_
    exact ⟨_, rfl, ret (by rw [hf, decide_eq_false (show ¬ m ≤ 59 by omega)]; rfl)⟩
  rw [decide_eq_false q4]
  rw [decide_eq_true (show m ≤ 59 by omega), Bool.true_and] at hf
  refine goW ?_
  by_cases q5 : c < 0
  · rw [decide_eq_true q5]
    refine goW ?_
    exact ⟨_, rfl, ret (by rw [hf, decide_eq_false (show ¬ c ≥ 0 by omega)]; rfl)⟩
  rw [decide_eq_false q5]
  rw [decide_eq_true (show c ≥ 0 by omega), Bool.true_and] at hf
  refine goW ?_
  by_cases q6 : c > 59
  · rw [decide_eq_true q6]
    refine goW ?_
    exact ⟨_, rfl, ret (by rw [hf, decide_eq_false (show ¬ c ≤ 59 by omega)]; rfl)⟩
  rw [decide_eq_false q6]
  rw [decide_eq_true (show c ≤ 59 by omega), Bool.true_and] at hf
  refine goW ?_
  by_cases q7 : s.length = 8
  · rw [eqI_true (show ((s.length : Nat) : Int) = 8 by omega)]
    refine goW ?_
    exact ⟨_, rfl, ret (by rw [hf, decide_eq_true q7]; rfl)⟩
  rw [eqI_false (show ¬ ((s.length : Nat) : Int) = 8 by omega)]
  rw [decide_eq_false q7, Bool.false_or] at hf
  obtain ⟨b8, hb8⟩ : ∃ b, s[8]? = some b := ⟨_, List.getElem?_eq_getElem (by omega)⟩
  rw [atB_get hb8] at hf
  refine goW ?_
  refine step_ruleO (sx_ixS (k := 8) rfl rfl hb8) ?_
  refine goW ?_
  rw [show ((b8.toNat : Int) == 46) = (b8 == 46) from u8_eqI b8 46]
  cases h46 : (b8 == 46) with
  | false =>
    refine goW ?_
    exact ⟨_, rfl, ret (by rw [hf, h46]; rfl)⟩
  | true =>
  rw [h46, Bool.true_and] at hf
  refine goW ?_
  by_cases q8 : (s.length : Int) ≥ 10
  case neg =>
    rw [decide_eq_false q8]
    refine goW ?_
    exact ⟨_, rfl, ret (by rw [hf, decide_eq_false (by omega)]; rfl)⟩
  rw [decide_eq_true q8]
  rw [decide_eq_true (show 1 ≤ (s.drop 9).length by omega), Bool.true_and] at hf
  refine goW ?_
  by_cases q9 : (s.length : Int) ≤ 18
  case neg =>
    rw [decide_eq_false q9]
    refine goW ?_
    exact ⟨_, rfl, ret (by rw [hf, decide_eq_false (by omega)]; rfl)⟩
  rw [decide_eq_true q9]
  rw [decide_eq_true (show (s.drop 9).length ≤ 9 by omega), Bool.true_and, ← hfr (by omega)] at hf
  have d4 := d4 (by omega)
  refine goW ?_
  rw [show wr .i64 ((s.length : Int) - 9) = ((s.length - 9 : Nat) : Int) by rw [wr64 (by omega) (by omega)]; omega]
  refine call_pf hm (by rfl) d4 ?_
  refine goW ?_
  exact ⟨_, rfl, ret hf⟩
end
end Go.Dn

namespace Go.Dn
open Go Go.Proofs.C1
set_option maxRecDepth 100000
attribute [local irreducible] afterS keepE

/-- behind the letter T -/
def tailR (t : List UInt8) : Bool :=
  clockB t || (if atB t (t.length - 1) 90 = true then clockB (t.take (t.length - 1))
  else decide (14 ≤ t.length) && ((atB t (t.length - 6) 43 || atB t (t.length - 6) 45) && (atB t (t.length - 3) 58 &&
    (decide (digI t (t.length - 5) 2 ≥ 0) && (decide (digI t (t.length - 5) 2 ≤ 23) && (decide (digI t (t.length - 2) 2 ≥ 0) && (decide (digI t (t.length - 2) 2 ≤ 59) && clockB (t.take (t.length - 6)))))))))
def timeR (s : List UInt8) : Bool :=
  dateB s || (clockB s || (decide (19 ≤ s.length) && (atB s 10 84 && (dateB (s.take 10) && tailR (s.drop 11)))))

section
variable {gt : GT} {C : CallT}

set_option maxHeartbeats 8000000 in
theorem timeTail_wp (hm : MonoC C) (hdg : ∀ (s : List UInt8) (a n : Nat), a < 4611686018427387904 → n ≤ 9 → s.length < 4611686018427387904 → PF C 111 [.str s, .int .i64 a, .int .i64 n] (.int .i64 (digI s a n)))
    (hck : ∀ s : List UInt8, s.length < 4611686018427387904 → PF C 110 [.str s] (.bool (clockB s)))
    {t : List UInt8} {z : Env} (hl : t.length < 4611686018427387904) (h8 : 8 ≤ t.length) :
    wpD gt C F63.body.rt.rt.rt.rt ((3, .val (.str t)) :: z) St.init (bodyQ gt F63.res (Ret (.bool (tailR t)))) := by
  have hf : tailR t = (clockB t || (if atB t (t.length - 1) 90 = true then clockB (t.take (t.length - 1))
  else decide (14 ≤ t.length) && ((atB t (t.length - 6) 43 || atB t (t.length - 6) 45) && (atB t (t.length - 3) 58 &&
    (decide (digI t (t.length - 5) 2 ≥ 0) && (decide (digI t (t.length - 5) 2 ≤ 23) && (decide (digI t (t.length - 2) 2 ≥ 0) && (decide (digI t (t.length - 2) 2 ≤ 59) && clockB (t.take (t.length - 6)))))))))) := rfl
  have d1 := hdg t (t.length - 5) 2 (by omega) (by omega) hl
  have d2 := hdg t (t.length - 2) 2 (by omega) (by omega) hl
  have c1 := hck t hl
  have c2 := hck (t.take (t.length - 1)) (by rw [List.length_take]; omega)
  have c3 := hck (t.take (t.length - 6)) (by rw [List.length_take]; omega)
  generalize tailR t = res at hf ⊢
  have ret : ∀ {o : Bool} {S : St}, res = o → Ret (.bool res) (.ret (.bool o)) S := fun h => by rw [h]; exact Ret.sta trivial
  generalize digI t (t.length - 5) 2 = h at hf d1
  generalize digI t (t.length - 2) 2 = m at hf d2
  generalize clockB t = k1 at hf c1
  generalize clockB (t.take (t.length - 1)) = k2 at hf c2
  generalize clockB (t.take (t.length - 6)) = k3 at hf c3
  obtain ⟨bz, hbz⟩ : ∃ b, t[t.length - 1]? = some b := ⟨_, List.getElem?_eq_getElem (by omega)⟩
  obtain ⟨b6, hb6⟩ : ∃ b, t[t.length - 6]? = some b := ⟨_, List.getElem?_eq_getElem (by omega)⟩
  obtain ⟨b3, hb3⟩ : ∃ b, t[t.length - 3]? = some b := ⟨_, List.getElem?_eq_getElem (by omega)⟩
  rw [atB_get hbz, atB_get hb6, atB_get hb6, atB_get hb3] at hf
  have w1 : wr .i64 ((t.length : Int) - 1) = ((t.length - 1 : Nat) : Int) := by rw [wr64 (by omega) (by omega)]; omega
  have w6 : wr .i64 ((t.length : Int) - 6) = ((t.length - 6 : Nat) : Int) := by rw [wr64 (by omega) (by omega)]; omega
  have w3 : wr .i64 ((t.length : Int) - 3) = ((t.length - 3 : Nat) : Int) := by rw [wr64 (by omega) (by omega)]; omega
  have w5 : wr .i64 ((t.length : Int) - 5) = ((t.length - 5 : Nat) : Int) := by rw [wr64 (by omega) (by omega)]; omega
  have w2 : wr .i64 ((t.length : Int) - 2) = ((t.length - 2 : Nat) : Int) := by rw [wr64 (by omega) (by omega)]; omega
  conv => whnf
  refine goW ?_
  refine call_pf hm (by rfl) c1 ?_
  cases k1 with
  | true =>
    refine goW ?_
    exact ⟨_, rfl, ret (by rw [hf]; rfl)⟩
  | false =>
  rw [Bool.false_or] at hf
  refine goW ?_
  rw [w1]
  refine step_ruleO (sx_ixS (k := t.length - 1) rfl rfl hbz) ?_
  refine goW ?_
  rw [show ((bz.toNat : Int) == 90) = (bz == 90) from u8_eqI bz 90]
  cases hz : (bz == 90) with
  | true =>
    rw [hz, if_pos rfl] at hf
    refine goW ?_
    rw [w1]
    refine step_ruleO (sx_slHiS (h := t.length - 1) rfl rfl (by omega)) ?_
    refine goW ?_
    refine call_pf hm (by rfl) c2 ?_
    refine goW ?_
    exact ⟨_, rfl, ret hf⟩
  | false =>
  rw [hz, if_neg (by simp)] at hf
  refine goW ?_
  by_cases h14 : (t.length : Int) < 14
  · rw [decide_eq_true h14]
    refine goW ?_
    exact ⟨_, rfl, ret (by rw [hf, decide_eq_false (by omega)]; rfl)⟩
  rw [decide_eq_false h14]
  rw [decide_eq_true (show 14 ≤ t.length by omega), Bool.true_and] at hf
  refine goW ?_
  rw [w6]
  refine st_any (by exact rfl) (sx_ixS (k := t.length - 6) rfl rfl hb6) ?_
  refine goW ?_
  rw [show ((b6.toNat : Int) != 43) = !(b6 == 43) from u8_neI b6 43]
  -- the rest, behind the colon's test
  have fin : res = (decide (h ≥ 0) && (decide (h ≤ 23) && (decide (m ≥ 0) && (decide (m ≤ 59) && k3)))) → ∀ z, wpD gt C F63.body.rt.rt.rt.rt.rt.rt.rt.rt ((3, .val (.str t)) :: (4, .val (.int .i64 t.length)) :: z) St.init (bodyQ gt F63.res (Ret (.bool res))) := fun hf z => by
    conv => whnf
    refine goW ?_
    rw [w5]
    refine call_pf hm (by rfl) d1 ?_
    refine goW ?_
    rw [w2]
    refine call_pf hm (by rfl) d2 ?_
    refine goW ?_
    by_cases q1 : h ≥ 0
    case neg =>
      rw [decide_eq_false q1]
      refine goW ?_
      exact ⟨_, rfl, ret (by rw [hf, decide_eq_false q1]; rfl)⟩
    rw [decide_eq_true q1]
    rw [decide_eq_true q1, Bool.true_and] at hf
    refine goW ?_
    by_cases q2 : h ≤ 23
    case neg =>
      rw [decide_eq_false q2]
      refine goW ?_
      exact ⟨_, rfl, ret (by rw [hf, decide_eq_false q2]; rfl)⟩
    rw [decide_eq_true q2]
    rw [decide_eq_true q2, Bool.true_and] at hf
    refine goW ?_
    by_cases q3 : m ≥ 0
    case neg =>
      rw [decide_eq_false q3]
      refine goW ?_
      exact ⟨_, rfl, ret (by rw [hf, decide_eq_false q3]; rfl)⟩
    rw [decide_eq_true q3]
    rw [decide_eq_true q3, Bool.true_and] at hf
    refine goW ?_
    by_cases q4 : m ≤ 59
    case neg =>
      rw [decide_eq_false q4]
      refine goW ?_
      exact ⟨_, rfl, ret (by rw [hf, decide_eq_false q4]; rfl)⟩
    rw [decide_eq_true q4]
    rw [decide_eq_true q4, Bool.true_and] at hf
    refine goW ?_
    rw [w6]
    refine st_any (by exact rfl) (sx_slHiS (h := t.length - 6) rfl rfl (by omega)) ?_
    refine goW ?_
    refine call_pf hm (by rfl) c3 ?_
    refine goW ?_
    exact ⟨_, rfl, ret hf⟩
  cases h43 : (b6 == 43) with
  | true =>
    rw [h43, Bool.true_or, Bool.true_and] at hf
    refine goW ?_
    rw [w3]
    refine st_any (by exact rfl) (sx_ixS (k := t.length - 3) rfl rfl hb3) ?_
    refine goW ?_
    rw [show ((b3.toNat : Int) != 58) = !(b3 == 58) from u8_neI b3 58]
    cases h58 : (b3 == 58) with
    | false =>
      refine goW ?_
      exact ⟨_, rfl, ret (by rw [hf, h58]; rfl)⟩
    | true =>
      rw [h58, Bool.true_and] at hf
      have fin := fin hf
      refine goK ?_
      with_unfolding_all exact fin []
  | false =>
    rw [h43, Bool.false_or] at hf
    refine goW ?_
    rw [w6]
    refine st_any (by exact rfl) (sx_ixS (k := t.length - 6) rfl rfl hb6) ?_
    refine goW ?_
    rw [show ((b6.toNat : Int) != 45) = !(b6 == 45) from u8_neI b6 45]
    cases h45 : (b6 == 45) with
    | false =>
      refine goW ?_
      exact ⟨_, rfl, ret (by rw [hf, h45]; rfl)⟩
    | true =>
      rw [h45, Bool.true_and] at hf
      refine goW ?_
      rw [w3]
      refine st_any (by exact rfl) (sx_ixS (k := t.length - 3) rfl rfl hb3) ?_
      refine goW ?_
      rw [show ((b3.toNat : Int) != 58) = !(b3 == 58) from u8_neI b3 58]
      cases h58 : (b3 == 58) with
      | false =>
        refine goW ?_
        exact ⟨_, rfl, ret (by rw [hf, h58]; rfl)⟩
      | true =>
        rw [h58, Bool.true_and] at hf
        have fin := fin hf
        refine goK ?_
        with_unfolding_all exact fin []

set_option maxHeartbeats 8000000 in
theorem time3_wp (hm : MonoC C) (hdg : ∀ (s : List UInt8) (a n : Nat), a < 4611686018427387904 → n ≤ 9 → s.length < 4611686018427387904 → PF C 111 [.str s, .int .i64 a, .int .i64 n] (.int .i64 (digI s a n)))
    (hck : ∀ s : List UInt8, s.length < 4611686018427387904 → PF C 110 [.str s] (.bool (clockB s))) (hdt : ∀ s : List UInt8, PF C 109 [.str s] (.bool (dateB s)))
    {s : List UInt8} (hl : s.length < 4611686018427387904) : wpF gt C F63 [.str s] St.init (Ret (.bool (timeR s))) := by
  have hf : timeR s = (dateB s || (clockB s || (decide (19 ≤ s.length) && (atB s 10 84 && (dateB (s.take 10) && tailR (s.drop 11)))))) := rfl
  have c1 := hck s hl
  have e1 := hdt s
  have e2 := hdt (s.take 10)
  generalize timeR s = res at hf ⊢
  have ret : ∀ {o : Bool} {S : St}, res = o → Ret (.bool res) (.ret (.bool o)) S := fun h => by rw [h]; exact Ret.sta trivial
  generalize dateB s = k1 at hf e1
  generalize clockB s = k2 at hf c1
  generalize dateB (s.take 10) = k3 at hf e2
  refine ⟨rfl, ?_⟩
  refine goW ?_
  refine call_pf hm (by rfl) e1 ?_
  cases k1 with
  | true =>
    refine goW ?_
    exact ⟨_, rfl, ret (by rw [hf]; rfl)⟩
  | false =>
  rw [Bool.false_or] at hf
  refine goW ?_
  refine call_pf hm (by rfl) c1 ?_
  cases k2 with
  | true =>
    refine goW ?_
    exact ⟨_, rfl, ret (by rw [hf]; rfl)⟩
  | false =>
  rw [Bool.false_or] at hf
  refine goW ?_
  by_cases h19 : (s.length : Int) < 19
  · rw [decide_eq_true h19]
    refine goW ?_
    exact ⟨_, rfl, ret (by rw [hf, decide_eq_false (by omega)]; rfl)⟩
  rw [decide_eq_false h19]
  rw [decide_eq_true (show 19 ≤ s.length by omega), Bool.true_and] at hf
  obtain ⟨bt, hbt⟩ : ∃ b, s[10]? = some b := ⟨_, List.getElem?_eq_getElem (by omega)⟩
  rw [atB_get hbt] at hf
  refine goW ?_
  refine st_any (by exact rfl) (sx_ixS (k := 10) rfl rfl hbt) ?_
  refine goW ?_
  rw [show ((bt.toNat : Int) != 84) = !(bt == 84) from u8_neI bt 84]
  cases hT : (bt == 84) with
  | false =>
    refine goW ?_
    exact ⟨_, rfl, ret (by rw [hf, hT]; rfl)⟩
  | true =>
  rw [hT, Bool.true_and] at hf
  refine goW ?_
  refine st_any (by exact rfl) (sx_slHiS (h := 10) rfl rfl (by omega)) ?_
  refine goW ?_
  refine call_pf hm (by rfl) e2 ?_
  cases k3 with
  | false =>
    refine goW ?_
    exact ⟨_, rfl, ret (by rw [hf]; rfl)⟩
  | true =>
  rw [Bool.true_and] at hf
  rw [hf]
  have fin := fun z => timeTail_wp (gt := gt) (z := z) hm hdg hck (t := s.drop 11) (by rw [List.length_drop]; omega) (by rw [List.length_drop]; omega)
  refine goW ?_
  refine step_ruleO (sx_slLo (l := 11) rfl rfl (by omega)) ?_
  refine goK ?_
  with_unfolding_all exact fin []
end
end Go.Dn

namespace Go.Dn
open Go

theorem cutC_true {c : UInt8} : ∀ {s d e : List UInt8}, cutC c s = (d, e, true) → s = d ++ c :: e
  | [], d, e, h => by simp [cutC] at h
  | b :: r, d, e, h => by
    simp only [cutC] at h
    split at h
    · rename_i hb
      rw [beq_iff_eq] at hb
      simp only [Prod.mk.injEq] at h
      obtain ⟨rfl, rfl, _⟩ := h
      rw [hb]; rfl
    · simp only [Prod.mk.injEq] at h
      obtain ⟨rfl, rfl, h3⟩ := h
      rw [List.cons_append, ← cutC_true (s := r) (d := (cutC c r).1) (e := (cutC c r).2.1) (by rw [← h3])]
theorem cutC_app {c : UInt8} {e : List UInt8} : ∀ {d : List UInt8}, c ∉ d → cutC c (d ++ c :: e) = (d, e, true)
  | [], _ => by simp [cutC]
  | b :: r, h => by
    have hb : (b == c) = false := by
      cases hh : (b == c) with
      | false => rfl
      | true => rw [beq_iff_eq] at hh; exact absurd (by rw [hh]; simp) h
    have ih := cutC_app (c := c) (e := e) (d := r) fun h' => h (by simp [h'])
    simp only [List.cons_append, cutC, hb, ih, Bool.false_eq_true, if_false]

theorem hd_mem {c : UInt8} {l : List UInt8} (h : hd c l = true) : c ∈ l := by
  cases l with
  | nil => cases h
  | cons b r =>
    have : b = c := by simpa [hd] using h
    rw [this]; simp
theorem not_mem_hd {c : UInt8} {l : List UInt8} (h : c ∉ l) : hd c l = false := by
  cases hh : hd c l with
  | false => rfl
  | true => exact absurd (hd_mem hh) h

theorem within_dig {a b : UInt8} {lo hi : Int} (h0 : 0 ≤ lo) (h : withinB [a, b] lo hi = true) : dig a = true ∧ dig b = true := by
  unfold withinB at h
  rw [Bool.and_eq_true, decide_eq_true_eq, decide_eq_true_eq] at h
  exact (twoB_ok a b).1.1 (by omega)

theorem dig84 : dig 84 = false := by decide
theorem date_ok {d : List UInt8} (h : dateB d = true) : d.length = 10 ∧ (84 : UInt8) ∉ d := by
  have h10 : d.length = 10 := by
    unfold dateB at h
    rw [Bool.and_eq_true, decide_eq_true_eq] at h
    exact h.1
  refine ⟨h10, ?_⟩
  obtain ⟨b0, b1, b2, b3, b4, b5, b6, b7, b8, b9, rfl⟩ := ten h10
  have e : dateB [b0, b1, b2, b3, b4, b5, b6, b7, b8, b9] = ((b4 == 45) && ((b7 == 45) && (decide (0 ≤ twoB [b0, b1]) && (decide (0 ≤ twoB [b2, b3]) && (withinB [b5, b6] 1 12 && withinB [b8, b9] 1 (daysB (twoB [b0, b1] * 100 + twoB [b2, b3]) (twoB [b5, b6]))))))) := rfl
  rw [e] at h
  simp only [Bool.and_eq_true, beq_iff_eq, decide_eq_true_eq] at h
  obtain ⟨rfl, rfl, h1, h2, h3, h4⟩ := h
  have g1 := (twoB_ok b0 b1).1.1 h1
  have g2 := (twoB_ok b2 b3).1.1 h2
  have g3 := within_dig (by decide) h3
  have g4 := within_dig (by decide) h4
  have n84 : ∀ {b : UInt8}, dig b = true → (84 : UInt8) ≠ b := fun hb e => by rw [← e, dig84] at hb; cases hb
  simp only [List.mem_cons, List.not_mem_nil, or_false, not_or]
  exact ⟨n84 g1.1, n84 g1.2, n84 g2.1, n84 g2.2, by decide, n84 g3.1, n84 g3.2, by decide, n84 g4.1, n84 g4.2⟩

theorem clock_ok {t : List UInt8} (h : clockB t = true) : 8 ≤ t.length ∧ ∀ b ∈ t, b = 58 ∨ b = 46 ∨ dig b = true := by
  have h8 : 8 ≤ t.length := by
    unfold clockB at h
    rw [Bool.and_eq_true, decide_eq_true_eq] at h
    exact h.1
  refine ⟨h8, ?_⟩
  match t, h8, h with
  | b0 :: b1 :: b2 :: b3 :: b4 :: b5 :: b6 :: b7 :: r, _, h =>
    have e : clockB (b0 :: b1 :: b2 :: b3 :: b4 :: b5 :: b6 :: b7 :: r) = (decide (8 ≤ (b0 :: b1 :: b2 :: b3 :: b4 :: b5 :: b6 :: b7 :: r).length) && ((b2 == 58) && ((b5 == 58) && (withinB [b0, b1] 0 23 && (withinB [b3, b4] 0 59 && (withinB [b6, b7] 0 59 &&
      (decide ((b0 :: b1 :: b2 :: b3 :: b4 :: b5 :: b6 :: b7 :: r).length = 8) || (hd 46 r && (decide (1 ≤ (r.drop 1).length) && (decide ((r.drop 1).length ≤ 9) && beqB (trimA tenD (r.drop 1)) [])))))))))) := rfl
    rw [e] at h
    simp only [Bool.and_eq_true, beq_iff_eq] at h
    obtain ⟨_, rfl, rfl, h1, h2, h3, h4⟩ := h
    have g1 := within_dig (by decide) h1
    have g2 := within_dig (by decide) h2
    have g3 := within_dig (by decide) h3
    have hr : ∀ b ∈ r, b = 58 ∨ b = 46 ∨ dig b = true := by
      intro b hb
      rw [Bool.or_eq_true, decide_eq_true_eq] at h4
      rcases h4 with h4 | h4
      · have : r = [] := List.eq_nil_of_length_eq_zero (by simpa using h4)
        rw [this] at hb; simp at hb
      · simp only [Bool.and_eq_true] at h4
        obtain ⟨q1, _, _, q2⟩ := h4
        rw [beqB_iff, trimA_nil] at q2
        cases r with
        | nil => simp at hb
        | cons c q =>
          have : c = 46 := by simpa [hd] using q1
          rcases List.mem_cons.1 hb with rfl | hb
          · exact .inr (.inl this)
          · exact .inr (.inr (by rw [← tenD_dig]; exact q2 b hb))
    intro b hb
    simp only [List.mem_cons] at hb
    rcases hb with rfl | rfl | rfl | rfl | rfl | rfl | rfl | rfl | hb
    · exact .inr (.inr g1.1)
    · exact .inr (.inr g1.2)
    · exact .inl rfl
    · exact .inr (.inr g2.1)
    · exact .inr (.inr g2.2)
    · exact .inl rfl
    · exact .inr (.inr g3.1)
    · exact .inr (.inr g3.2)
    · exact hr b hb

theorem clock_no {t : List UInt8} (h : clockB t = true) {c : UInt8} (hc : ¬ (c = 58 ∨ c = 46 ∨ dig c = true)) : c ∉ t := fun hm => hc ((clock_ok h).2 c hm)

theorem clock_zone {t : List UInt8} (h : clockB t = true) : (zoneB t).1 = t := by
  have n90 : (90 : UInt8) ∉ t := clock_no h (by decide)
  have n43 : (43 : UInt8) ∉ t := clock_no h (by decide)
  have n45 : (45 : UInt8) ∉ t := clock_no h (by decide)
  unfold zoneB
  rw [if_neg, if_pos]
  · right
    exact ⟨not_mem_hd fun hm => n43 (List.mem_of_mem_drop hm), not_mem_hd fun hm => n45 (List.mem_of_mem_drop hm)⟩
  · rw [Bool.not_eq_true]
    exact not_mem_hd fun hm => n90 (List.mem_reverse.1 hm)

theorem tl_at {c : UInt8} {t : List UInt8} (h : 1 ≤ t.length) : tl c t = atB t (t.length - 1) c := by
  obtain ⟨b, hb⟩ : ∃ b, t[t.length - 1]? = some b := ⟨_, List.getElem?_eq_getElem (by omega)⟩
  rw [tl_last hb (by omega), atB_get hb]
theorem atB_drop (t : List UInt8) (a k : Nat) (c : UInt8) : atB (t.drop a) k c = atB t (a + k) c := by
  unfold atB; rw [List.drop_drop]

theorem tail_zone {t : List UInt8} (h8 : 8 ≤ t.length) : tailR t = clockB (zoneB t).1 := by
  by_cases hc : clockB t = true
  · rw [clock_zone hc, hc]; unfold tailR; rw [hc]; rfl
  have hc' : clockB t = false := by simpa using hc
  have e1 : atB (t.drop (t.length - 6)) 3 58 = atB t (t.length - 3) 58 := by rw [atB_drop]; congr 1; omega
  have e2 : withinB (sub (t.drop (t.length - 6)) 1 3) 0 23 = (decide (digI t (t.length - 5) 2 ≥ 0) && decide (digI t (t.length - 5) 2 ≤ 23)) := by
    rw [digI_two]
    unfold sub withinB
    rw [List.drop_drop, show t.length - 6 + 1 = t.length - 5 by omega]
  have e3 : withinB ((t.drop (t.length - 6)).drop 4) 0 59 = (decide (digI t (t.length - 2) 2 ≥ 0) && decide (digI t (t.length - 2) 2 ≤ 59)) := by
    rw [digI_two]
    unfold withinB
    rw [List.drop_drop, show t.length - 6 + 4 = t.length - 2 by omega, List.take_of_length_le (by rw [List.length_drop]; omega)]
  unfold tailR zoneB
  rw [hc', Bool.false_or, tl_at (by omega), e1, e2, e3]
  by_cases hz : atB t (t.length - 1) 90 = true
  · rw [if_pos hz, if_pos hz]
  rw [if_neg hz, if_neg hz]
  have short : t.length < 14 → clockB (t.take (t.length - 6)) = false := fun h => by
    cases hk : clockB (t.take (t.length - 6)) with
    | false => rfl
    | true =>
      have := (clock_ok hk).1
      rw [List.length_take] at this
      omega
  cases h43 : atB t (t.length - 6) 43 with
  | false =>
    cases h45 : atB t (t.length - 6) 45 with
    | false =>
      rw [if_pos (.inr ⟨rfl, rfl⟩)]
      simp only [Bool.or_self, Bool.false_and, Bool.and_false, hc']
    | true =>
      rw [if_neg (by rintro (h | ⟨_, h⟩); omega; cases h)]
      cases h58 : atB t (t.length - 3) 58 with
      | false =>
        rw [if_pos (.inl rfl)]
        simp only [Bool.false_and, Bool.and_false, hc']
      | true =>
        generalize decide (digI t (t.length - 5) 2 ≥ 0) = x1
        generalize decide (digI t (t.length - 5) 2 ≤ 23) = x2
        generalize decide (digI t (t.length - 2) 2 ≥ 0) = x3
        generalize decide (digI t (t.length - 2) 2 ≤ 59) = x4
        by_cases h14 : 14 ≤ t.length
        · rw [decide_eq_true h14]
          cases x1 <;> cases x2 <;> cases x3 <;> cases x4 <;> simp [hc']
        · rw [decide_eq_false h14]
          have := short (by omega)
          cases x1 <;> cases x2 <;> cases x3 <;> cases x4 <;> simp [hc', this]
  | true =>
    rw [if_neg (by rintro (h | ⟨h, _⟩); omega; cases h)]
    cases h58 : atB t (t.length - 3) 58 with
    | false =>
      rw [if_pos (.inl rfl)]
      simp only [Bool.false_and, Bool.and_false, hc']
    | true =>
      generalize decide (digI t (t.length - 5) 2 ≥ 0) = x1
      generalize decide (digI t (t.length - 5) 2 ≤ 23) = x2
      generalize decide (digI t (t.length - 2) 2 ≥ 0) = x3
      generalize decide (digI t (t.length - 2) 2 ≤ 59) = x4
      by_cases h14 : 14 ≤ t.length
      · rw [decide_eq_true h14]
        cases x1 <;> cases x2 <;> cases x3 <;> cases x4 <;> simp [hc']
      · rw [decide_eq_false h14]
        have := short (by omega)
        cases x1 <;> cases x2 <;> cases x3 <;> cases x4 <;> simp [hc', this]

theorem zone_drop {s : List UInt8} (h19 : 19 ≤ s.length) : (zoneB s).1 = s.take 11 ++ (zoneB (s.drop 11)).1 := by
  have hl : (s.drop 11).length = s.length - 11 := List.length_drop
  have d6 : (s.drop 11).drop ((s.drop 11).length - 6) = s.drop (s.length - 6) := by rw [List.drop_drop, hl]; congr 1; omega
  have tk : ∀ k, k ≤ 6 → s.take (s.length - k) = s.take 11 ++ (s.drop 11).take ((s.drop 11).length - k) := fun k hk => by
    rw [hl, show s.length - k = 11 + (s.length - 11 - k) by omega, List.take_add]
  have al : s = s.take 11 ++ s.drop 11 := (List.take_append_drop 11 s).symm
  have a1 : ∀ c, atB (s.drop 11) ((s.drop 11).length - 6) c = atB s (s.length - 6) c := fun c => by rw [atB_drop, hl]; congr 1; omega
  have a2 : tl 90 (s.drop 11) = tl 90 s := by rw [tl_at (by omega), tl_at (by omega), atB_drop, hl]; congr 1; omega
  unfold zoneB
  rw [a2, a1, a1, d6]
  by_cases hz : tl 90 s = true
  · rw [if_pos hz, if_pos hz]
    exact tk 1 (by omega)
  rw [if_neg hz, if_neg hz]
  by_cases h1 : atB s (s.length - 6) 43 = false ∧ atB s (s.length - 6) 45 = false
  · rw [if_pos (.inr h1), if_pos (.inr h1)]
    exact al
  have n1 : ¬ (s.length < 6 ∨ (atB s (s.length - 6) 43 = false ∧ atB s (s.length - 6) 45 = false)) := by rintro (h | h); omega; exact h1 h
  have n2 : ¬ ((s.drop 11).length < 6 ∨ (atB s (s.length - 6) 43 = false ∧ atB s (s.length - 6) 45 = false)) := by rintro (h | h); omega; exact h1 h
  rw [if_neg n1, if_neg n2]
  by_cases h2 : atB (s.drop (s.length - 6)) 3 58 = false ∨ withinB (sub (s.drop (s.length - 6)) 1 3) 0 23 = false ∨ withinB ((s.drop (s.length - 6)).drop 4) 0 59 = false
  · rw [if_pos h2, if_pos h2]
    exact al
  · rw [if_neg h2, if_neg h2]
    exact tk 6 (by omega)

theorem timeR_eq (s : List UInt8) : timeR s = timeB s := by
  unfold timeR timeB
  congr 2
  by_cases h19 : 19 ≤ s.length
  · rw [decide_eq_true h19, Bool.true_and, tail_zone (by rw [List.length_drop]; omega), zone_drop h19]
    generalize (zoneB (s.drop 11)).1 = z
    obtain ⟨b, hb⟩ : ∃ b, s[10]? = some b := ⟨_, List.getElem?_eq_getElem (by omega)⟩
    have hl10 : (s.take 10).length = 10 := by rw [List.length_take]; omega
    have h11 : s.take 11 = s.take 10 ++ [b] := by
      have := List.take_add_one (l := s) (i := 10)
      rw [hb] at this
      exact this
    rw [h11, List.append_assoc, List.singleton_append, atB_get hb]
    generalize s.take 10 = d at hl10 ⊢
    by_cases hok : (b == 84) = true ∧ dateB d = true
    · have hb84 : b = 84 := by simpa using hok.1
      subst hb84
      rw [cutC_app (date_ok hok.2).2]
      rfl
    · have hL : ((b == 84) && (dateB d && clockB z)) = false := by
        cases h1 : (b == 84) with
        | false => rfl
        | true =>
          cases h2 : dateB d with
          | false => rfl
          | true => exact absurd ⟨h1, h2⟩ hok
      rw [hL]
      symm
      cases hq : cutC 84 (d ++ b :: z) with
      | mk d' q =>
        obtain ⟨c', ok⟩ := q
        cases ok with
        | false => rfl
        | true =>
          simp only [Bool.true_and]
          have he := cutC_true hq
          cases hd' : dateB d' with
          | false => rfl
          | true =>
            exfalso
            have hl' := (date_ok hd').1
            have := List.append_inj he (by omega)
            obtain ⟨e1, e2⟩ := this
            simp only [List.cons.injEq] at e2
            exact hok ⟨by rw [e2.1]; rfl, by rw [e1]; exact hd'⟩
  · rw [decide_eq_false h19, Bool.false_and]
    symm
    cases hq : cutC 84 (zoneB s).1 with
    | mk d' q =>
      obtain ⟨c', ok⟩ := q
      cases ok with
      | false => rfl
      | true =>
        simp only [Bool.true_and]
        have he := congrArg List.length (cutC_true hq)
        have hz := zoneB_le s
        rw [List.length_append, List.length_cons] at he
        cases hd' : dateB d' with
        | false => rfl
        | true =>
          cases hc' : clockB c' with
          | false => rfl
          | true =>
            have h1 := (date_ok hd').1
            have h2 := (clock_ok hc').1
            omega
end Go.Dn

namespace Go.Proofs.YthgidapmofcloaaGreatDoor.Fn
open Go.ChangeShapes Go.WideShapes Go.ChangeAt Go.RowKit Go.Dn

theorem digitR (b : UInt8) : PF A 147 [.int .u8 b.toNat] (.bool (dig b)) :=
  pf Tryz.func147 (by kernel_rfl) C1.F147_ok (s1 trivial) digitR_wp
theorem runR (s : List UInt8) (k : Nat) (hk : k ≤ s.length) (h : s.length < 4611686018427387904) : PF A 146 [.str s, .int .i64 k] (.int .i64 ((k + runB (s.drop k) : Nat) : Int)) :=
  pf Tryz.func146 (by kernel_rfl) C1.F146_ok (s2 trivial trivial) (runR_wp hm digitR hk h)
theorem digitsR (n : Nat) (h : n < 9223372036854775808) : PF A 178 [.int .i64 n] (.str (decB n)) :=
  pf Tryz.func178 (by kernel_rfl) C1.F178_ok (s1 trivial) (digits_wp hm h)
theorem decimalR (e : Int) (h1 : -999999 ≤ e) (h2 : e ≤ 999999) : PF A 148 [.int .i64 e] (.str (itoaB e)) :=
  pf Tryz.func148 (by kernel_rfl) C1.F148_ok (s1 trivial) (decimal_wp hm digitsR h1 h2)
theorem splitR (s : List UInt8) (h : s.length < 4611686018427387904) : PF A 106 [.str s] (encSplit (splitB s)) :=
  pf Tryz.func106 (by kernel_rfl) C1.F106_ok (s1 trivial) (splitR_wp hm runR h)
theorem joinR (p : Parts3) (h : p.2.1.length ≤ 1000) : PF A 107 [encP p] (encJoin (joinB p)) :=
  pf Tryz.func107 (by kernel_rfl) C1.F107_ok (s1 ⟨trivial, trivial, trivial, trivial⟩) (joinR_wp hm digitR decimalR h)
theorem normalR (s : List UInt8) (h : s.length < 4611686018427387904) : PF A 61 [.str s] (encJoin (normB s)) :=
  pf Tryz.func61 (by kernel_rfl) C1.F61_ok (s1 trivial) (normalR_wp hm splitR joinR h)
theorem digs3 (s : List UInt8) (a n : Nat) (ha : a < 4611686018427387904) (hn : n ≤ 9) (h : s.length < 4611686018427387904) : PF A 111 [.str s, .int .i64 a, .int .i64 n] (.int .i64 (digI s a n)) :=
  pf Tryz.func111 (by kernel_rfl) C1.F111_ok (s3 trivial trivial trivial) (digs_wp hm ha hn h)
theorem date3 (s : List UInt8) : PF A 109 [.str s] (.bool (dateB s)) :=
  pf Tryz.func109 (by kernel_rfl) C1.F109_ok (s1 trivial) (date3_wp hm digs3)
theorem clock3 (s : List UInt8) (h : s.length < 4611686018427387904) : PF A 110 [.str s] (.bool (clockB s)) :=
  pf Tryz.func110 (by kernel_rfl) C1.F110_ok (s1 trivial) (clock3_wp hm digs3 h)
theorem time3 (s : List UInt8) (h : s.length < 4611686018427387904) : PF A 63 [.str s] (.bool (timeB s)) := by
  rw [← timeR_eq]
  exact pf Tryz.func63 (by kernel_rfl) C1.F63_ok (s1 trivial) (time3_wp hm digs3 clock3 date3 h)
theorem charR (c : Int) : PF A 179 [.int .i64 c] (.bool (charB c)) :=
  pf Tryz.func179 (by kernel_rfl) C1.F179_ok (s1 trivial) charR_wp
theorem oneR (s : List UInt8) (k : Nat) (hk : k < s.length) (h : s.length < 4611686018427387904) : PF A 149 [.str s, .int .i64 k] (encFirst (firstC (s.drop k))) :=
  pf Tryz.func149 (by kernel_rfl) C1.F149_ok (s2 trivial trivial) (one_wp hm charR hk h)
theorem runesR (s : List UInt8) (h : s.length < 4294967281) : A 108 [.str s] St.init fun r _ => RunesP s r :=
  AC_intro Tryz.checked.mixed Tryz.func108 (by kernel_rfl) C1.F108_ok (runes_wp hm oneR h)
theorem validR (s : List UInt8) (h : s.length < 4294967281) : PF A 62 [.str s] (.bool (validB s)) :=
  pf Tryz.func62 (by kernel_rfl) C1.F62_ok (s1 trivial) (validR_wp hm (runesR s h))
theorem shaped : ∀ t : PT, t.sok → PF A 33 [encT t] (.bool (formedB t)) :=
  indT fun t ih h => pf Tryz.func33 (by kernel_rfl) C1.F33_ok (s1 (sta_T t)) (shaped_wp hm normalR validR time3 ih h)
theorem depth3 : ∀ t : PT, t.n < 4611686018427387904 → PF A 29 [encT t] (.int .i64 t.dp) :=
  indT fun t ih h => pf Tryz.func29 (by kernel_rfl) C1.F29_ok (s1 (sta_T t)) (depth3_wp hm (fun u hu => ih u hu (by omega)) h)
theorem right3 (t : PT) (h : t.n < 4611686018427387904) (hk : t.sok) : PF A 27 [encT t] (.int .i64 (rightB t)) :=
  pf Tryz.func27 (by kernel_rfl) C1.F27_ok (s1 (sta_T t)) (right3_wp hm (depth3 t h) (size3 t 4097 (by omega)) (shaped t hk))
end Go.Proofs.YthgidapmofcloaaGreatDoor.Fn

namespace Go.Proofs.YthgidapmofcloaaGreatDoor
open Go.Dn

theorem bulk_keys : ∀ l : List (List UInt8), bulkAs (strs l) ≤ 1048576 → (∀ s ∈ l, s.length ≤ 1048576) ∧ l.length ≤ 1048576
  | [], _ => ⟨fun s h => by simp at h, by simp⟩
  | a :: r, h => by
    have e : strs (a :: r) = .str a :: strs r := rfl
    rw [e] at h
    simp only [bulkAs, bulkA] at h
    have ih := bulk_keys r (by omega)
    have h0 := bulk_strs0 r
    refine ⟨fun s hs => ?_, by simp only [List.length_cons]; omega⟩
    rcases List.mem_cons.1 hs with rfl | hs
    · omega
    · exact ih.1 s hs
mutual
theorem bulk_sok : ∀ t : PT, bulkA (encT t) ≤ 1048576 → t.sok ∧ t.n ≤ bulkA (encT t)
  | .mk k s keys kids, h => by
    simp only [encT, bulkA, bulkAs] at h ⊢
    have h1 := bulk_keys keys (by omega)
    have h2 := bulk_soks kids (by omega)
    have h3 := bulk_Ts kids (by omega)
    simp only [PT.sok, PT.n]
    exact ⟨⟨by omega, fun s hs => by have := h1.1 s hs; omega, by omega, by omega, h2.1⟩, by omega⟩
theorem bulk_soks : ∀ l : List PT, bulkAs (encTs l) ≤ 1048576 → PT.soks l ∧ PT.ns l ≤ bulkAs (encTs l)
  | [], _ => ⟨trivial, Nat.zero_le _⟩
  | t :: r, h => by
    simp only [encTs, bulkAs] at h
    have h1 := bulk_sok t (by omega)
    have h2 := bulk_soks r (by omega)
    simp only [PT.soks, encTs, bulkAs, PT.ns]
    exact ⟨⟨h1.1, h2.1⟩, by omega⟩
end

end Go.Proofs.YthgidapmofcloaaGreatDoor

namespace Go.Proofs.YthgidapmofcloaaGreatDoor
open Go.Dn Go.Proofs.YthgidapmofcloaaGreatDoor.Fn

theorem TreeRights.law {t : PT} (hs : t.sok) (hn : t.n < 4611686018427387904) : A 4 [encT t] St.init (Ret (.bool true)) :=
  AC_intro Tryz.checked.mixed Tryz.func4 (by kernel_rfl) Go.Proofs.C1.F4_ok
    (treeRights_wp Fn.hm Fn.runs (Fn.small t) (Fn.right t hn hs) (Fn.right3 t hn hs) (Fn.sizeP t hn) (Fn.size3 t 6000 (by omega)) (Fn.depthP t hn) (Fn.depth3 t hn))
end Go.Proofs.YthgidapmofcloaaGreatDoor

namespace Go.Proofs.YthgidapmofcloaaGreatDoor.TreeRights
open Go.ChangeShapes Go.WideShapes Go.ChangeAt Go.RowKit Go.Dn Go.Proofs.YthgidapmofcloaaGreatDoor.Fn

theorem laidOut : laidOutB Tryz.prog = true := by kernel_rfl

theorem walk {W : World} (hI : Inv Tryz.prog gtT St.init (G0 W) W) {args : Array Value} {xs : List AV} {f : FuncId} (hac : A f xs St.init (Ret (.bool true))) (hx : Rl St.init (G0 W) W xs args.toList) : Calls Tryz.prog f args W fun e W' => e = .returned (.bool true) ∧ Below W.heap.size W W' := by
  refine Calls.mono (hac.2 (G0 W) W args.toList hI hx) fun e W' hp => ?_
  cases e with
  | returned v =>
    obtain ⟨x, S', G', ⟨y, hy, hr⟩, t, rv⟩ := hp
    cases hy
    simp only [Rdo] at hr
    subst hr
    refine ⟨?_, below_of_ext t.ext⟩
    simp only [Rv] at rv
    rw [rv]
  | panicked chain =>
    obtain ⟨x, S', G', u, hc, ⟨y, hy, hr⟩, _⟩ := hp
    cases hy
  | outgrown => exact hp.elim

/-! ### what is read -/
theorem types : okTypes Tryz.prog [25, 23, 22, 9, 3, 60, 40] = true := by kernel_rfl
theorem wantsT : Tryz.pinned.checked.prog.wantsStandIn 25 = false := by kernel_rfl
theorem isUb {H : Type} : IsUb (Rows.uptoBulk (H := H)) Rows.uptoBulkAll where
  lit l := by cases l <;> simp [Rows.uptoBulk]
  str s := by simp [Rows.uptoBulk]
  nil := by simp [Rows.uptoBulk]
  slice a b := by simp [Rows.uptoBulk]
  agg a := by simp [Rows.uptoBulk]
  none := by simp [Rows.uptoBulkAll]
  cons d r := by simp [Rows.uptoBulkAll]

set_option maxRecDepth 1000000 in
theorem entryT {H : Type} {enc : TypeId × Value → H} {W : World} {v : Value} {d : DataW H} {p : List MemPlace} {base : Nat} (hv : Value.okWide Tryz.prog W .any base 25 v) (h : DataW.Trod enc Tryz.prog W 0 (fun _ => true) true 25 v d p) :
    ∃ n : PT, Rv St.init (G0 W) W (encT n) v ∧ bulkA (encT n) ≤ Rows.uptoBulk d := by
  obtain ⟨fuel, hf⟩ := h
  obtain ⟨zs, hr, ht, hb⟩ := trod_avb isUb types fuel 25 _ _ (by decide) hf
  obtain ⟨n, hn⟩ := av_tree ht
  refine ⟨n, ?_, ?_⟩
  · rw [← hn]
    obtain ⟨vs, rfl, _⟩ := okWide_struct Tryz.underlying25 hv
    simp only [Rv]
    exact ⟨_, rfl, hr⟩
  · rw [← hn]
    have : sb Tryz.prog 25 = 1 := by unfold sb; rw [Tryz.underlying25]
    rw [this] at hb
    simpa only [bulkA] using hb

/-! ### the row -/
abbrev zeroTree : Value := .agg #[.int .i64 0, .string .empty, .slice none 0 0, .slice none 0 0]
abbrev zeroData (H : Type) : DataW H := .agg [.lit (.int .i64 0), .lit (.string []), .nil, .nil]
abbrev zeros : Array Value := #[zeroTree]

theorem reads (os : Os) {H : Type} (enc : TypeId × Value → H) : ∃ places, DataW.whole enc Tryz.prog ((laidW os).forCall (fun _ _ => 0) ⟨#[], zeros, []⟩).memory Tryz.f4.params.toList Rows.treeRightsSpec.vars false zeros.toList 8 = some ([zeroData H], [], places) :=
  ⟨[], by kernel_rfl⟩

set_option maxRecDepth 100000 in
theorem lifted (os : Os) (started : os.Started) (H : Type) (enc : TypeId × Value → H) (F : Stop.Interp) :
    ReturnsInHanded {} Tryz.checked os 4 .any ((Rows.OpenSpec.upto Rows.treeRightsSpec).preRow enc Tryz.prog Tryz.f4 Rows.treeRightsUptoRow.domain false Rows.treeRightsUptoRow.laid)
      (((Rows.OpenSpec.upto Rows.treeRightsSpec).at F).post enc Tryz.prog Tryz.f4 false true false false) := by
  obtain ⟨places, hx⟩ := reads os enc
  refine returnsInHanded_of_row (C := Tryz.checked) (s := Rows.OpenSpec.upto Rows.treeRightsSpec) own started (by kernel_rfl) Tryz.func4
    (witness_row_atRef (enc := enc) (C := Tryz.checked) false (laidW os) zeros (laidW_os _) (by kernel_rfl) (by kernel_rfl) (by kernel_rfl)
      (OpenSpec.preRow_of_cond 8 hx (by kernel_rfl) (fun k hk => by cases hk; kernel_rfl) (by kernel_rfl) (laidW_met os _))) ?_
  intro W base args ds gs before hval0 hW _ hcond _ hL _ _
  have hval : ∀ (j : Nat) t v, Tryz.f4.params[j]? = some t → args[j]? = some v → Value.okWide Tryz.prog W .any base t v := hval0
  have hW' := hW
  obtain ⟨p, q, hA0, hV, rfl, hfz, hnd⟩ := hW
  have hA : DataW.TrodAll enc Tryz.prog W 0 (fun _ => true) true Tryz.f4.params.toList args.toList ds p := hA0
  rw [Tryz.params4] at hA hval
  obtain ⟨v0, d0, rfl, rfl, h0⟩ := trodAll_one hA
  obtain ⟨rfl, rfl⟩ := trodVars_none hV
  clear hA0 hval0
  simp only [List.append_nil] at hW'
  have hb : Rows.uptoBulkAll [d0] ≤ 1048576 := by
    have := hcond _ rfl
    rw [List.append_nil] at this
    exact of_decide_eq_true this
  simp only [Rows.uptoBulkAll] at hb
  obtain ⟨x0, hv0, hb0⟩ := entryT (hval 0 25 v0 rfl rfl) h0
  refine (walk (inv_of_laid hL) (law (bulk_sok x0 (by omega)).1 (by have := (bulk_sok x0 (by omega)).2; omega)) (Rl.cons hv0 Rl.nil)).mono fun e W' ⟨he, bel⟩ => ?_
  subst he
  have hlt : ∀ x ∈ p, x.block < W.heap.size := fun x hx => hW'.lt x (by first | exact hx | simpa using hx)
  exact ⟨_, rfl, _, _, _, [], _, [], hW', trodAll_mk1 (shut_bool Tryz.underlying4 _),
    trodAll_mk1 (Below.trod laidOut (by kernel_rfl) (of_decide_eq_true (by kernel_rfl)) h0 bel (fun x hx => hlt x (by exact hx))), rfl, bel.frame _, fun h => by cases h⟩

end Go.Proofs.YthgidapmofcloaaGreatDoor.TreeRights
