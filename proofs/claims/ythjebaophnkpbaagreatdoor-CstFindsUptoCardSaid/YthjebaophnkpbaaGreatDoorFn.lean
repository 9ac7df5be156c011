/- Nodes: their bytes: by pieces handed out, and by bytes behind others. Nodes: bytes behind others; the nodes to which paths lead. Nodes: the node to which a path leads, by the program and by the reference. Arrays that are made and written in place. The law CstFinds, walked. The entry, with the bulk of what is read; slices as pure data. The entry of chapter 4's laws: what is read, as nodes and steps; how great they are. The code is the program's, printed by a program (Gen). -/
import Derived.Test.YthjebaophnkpbaaGreatDoorProg
import Derived.Test.YthjebaophnkpbaaGreatDoorFm
set_option linter.unusedSimpArgs false
set_option linter.unusedVariables false
namespace Go.Dn
open Go Go.Proofs.C1
set_option maxRecDepth 100000
attribute [local irreducible] afterS keepE

theorem sx_ldHp {gt : GT} {d : Option Nat} {env : Env} {S : St} {a : DOpd} {id off sz : Nat} {ty : TypeId} {cs : List AV} {g : Bool} {v : AV} (ha : loc env a = some (.hp id off)) (hb : lk S.boxes id = some (some (ty, cs))) (hm : (cut cs off sz).bind (mkv g) = some v) :
    stepO gt d env S (.ld g sz a) = .done (putV d v env) S := by
  simp only [stepO, ha, ldL, ldC, hb]
  cases hc : cut cs off sz with
  | none => rw [hc] at hm; cases hm
  | some cs => rw [hc] at hm; simp only [Option.bind_some] at hm; simp only [hm, SR.val]

theorem sx_stHp {gt : GT} {d : Option Nat} {env : Env} {S : St} {a x : DOpd} {id off sz : Nat} {ty : TypeId} {cs : List AV} {v : AV} (ha : loc env a = some (.hp id off)) (hx : opd env x = some v) (hok : (Nat.beq v.cells.length sz && v.cells.all ok1) = true) (hb : lk S.boxes id = some (some (ty, cs))) (hl : off + v.cells.length ≤ cs.length) :
    stepO gt d env S (.st sz a x) = .done (putV d .undef env) { S with boxes := (id, some (ty, splice cs off v.cells)) :: S.boxes } := by
  simp only [stepO, ha, hx, hok, cond_true, stL, hb, ble_true hl]

theorem set_at {α : Type} {R : List α} {i : Nat} {x y : α} (h : R[i]? = some x) : (R.set i y)[i]? = some y := by
  rw [List.getElem?_set_self', h]; try rfl

def leafK (k : Int) : Bool := decide (1 ≤ k ∧ k ≤ 5)

def sepAt (seps : List (List UInt8)) (i : Nat) : List UInt8 := if 0 < i then (seps[i - 1]?).getD [] else []

mutual
def flatB : PN → List UInt8
  | .mk k a _ c _ h kids seps t e _ => a ++ ((if leafK k = true then c else h ++ (flatKs kids seps 0 ++ t)) ++ e)
def flatKs : List PN → List (List UInt8) → Nat → List UInt8
  | [], _, _ => []
  | n :: r, seps, i => sepAt seps i ++ (flatB n ++ flatKs r seps (i + 1))
end

theorem flatKs_step {kids : List PN} {seps : List (List UInt8)} {i : Nat} (h : i < kids.length) : flatKs (kids.drop i) seps i = sepAt seps i ++ (flatB kids[i] ++ flatKs (kids.drop (i + 1)) seps (i + 1)) := by
  rw [List.drop_eq_getElem_cons h]; try rfl

section
variable {gt : GT} {C : CallT}

theorem scalar_wp {k : Int} : wpF gt C F72 [.int .i64 k] St.init (Ret (.bool (leafK k))) := by
  refine ⟨rfl, ?_⟩
  (try refine And.intro (by rfl) ?_); (conv => whnf); repeat (first | (refine sI (by rfl) ?_; conv => whnf) | (refine sD (by rfl) (by rfl) ?_; conv => whnf) | (generalize hE : keepE _ _ = e0; revert hE; apply kI; (repeat (first | exact kN _ | (apply kC; with_unfolding_all rfl; rfl))); rintro rfl; conv => whnf))
  by_cases h : k ≥ 1
  · rw [decide_eq_true h]
    (try refine And.intro (by rfl) ?_); (conv => whnf); repeat (first | (refine sI (by rfl) ?_; conv => whnf) | (refine sD (by rfl) (by rfl) ?_; conv => whnf) | (generalize hE : keepE _ _ = e0; revert hE; apply kI; (repeat (first | exact kN _ | (apply kC; with_unfolding_all rfl; rfl))); rintro rfl; conv => whnf))
    refine ⟨_, rfl, ?_⟩
    rw [show leafK k = decide (k ≤ 5) by simp only [leafK]; congr 1; simp; intro; exact h]
    exact Ret.sta trivial
  · rw [decide_eq_false h]
    (try refine And.intro (by rfl) ?_); (conv => whnf); repeat (first | (refine sI (by rfl) ?_; conv => whnf) | (refine sD (by rfl) (by rfl) ?_; conv => whnf) | (generalize hE : keepE _ _ = e0; revert hE; apply kI; (repeat (first | exact kN _ | (apply kC; with_unfolding_all rfl; rfl))); rintro rfl; conv => whnf))
    refine ⟨_, rfl, ?_⟩
    rw [show leafK k = false by simp [leafK]; omega]
    exact Ret.sta trivial

theorem leafR_wp {k : Int} : wpF gt C F48 [.int .i64 k] St.init (Ret (.bool (leafK k))) := by
  refine ⟨rfl, ?_⟩
  (try refine And.intro (by rfl) ?_); (conv => whnf); repeat (first | (refine sI (by rfl) ?_; conv => whnf) | (refine sD (by rfl) (by rfl) ?_; conv => whnf) | (generalize hE : keepE _ _ = e0; revert hE; apply kI; (repeat (first | exact kN _ | (apply kC; with_unfolding_all rfl; rfl))); rintro rfl; conv => whnf))
  by_cases h : k ≥ 1
  · rw [decide_eq_true h]
    (try refine And.intro (by rfl) ?_); (conv => whnf); repeat (first | (refine sI (by rfl) ?_; conv => whnf) | (refine sD (by rfl) (by rfl) ?_; conv => whnf) | (generalize hE : keepE _ _ = e0; revert hE; apply kI; (repeat (first | exact kN _ | (apply kC; with_unfolding_all rfl; rfl))); rintro rfl; conv => whnf))
    refine ⟨_, rfl, ?_⟩
    rw [show leafK k = decide (k ≤ 5) by simp only [leafK]; congr 1; simp; intro; exact h]
    exact Ret.sta trivial
  · rw [decide_eq_false h]
    (try refine And.intro (by rfl) ?_); (conv => whnf); repeat (first | (refine sI (by rfl) ?_; conv => whnf) | (refine sD (by rfl) (by rfl) ?_; conv => whnf) | (generalize hE : keepE _ _ = e0; revert hE; apply kI; (repeat (first | exact kN _ | (apply kC; with_unfolding_all rfl; rfl))); rintro rfl; conv => whnf))
    refine ⟨_, rfl, ?_⟩
    rw [show leafK k = false by simp [leafK]; omega]
    exact Ret.sta trivial

theorem leaf_wp (hm : MonoC C) (hs : ∀ k, PF C 72 [.int .i64 k] (.bool (leafK k))) {n : PN} : wpF gt C F58 [encN n] St.init (Ret (.bool (leafK n.k))) := by
  obtain ⟨k, a, b, c, leaf, h, kids, seps, t, e, f⟩ := n
  refine ⟨rfl, ?_⟩
  (try refine And.intro (by rfl) ?_); (conv => whnf); repeat (first | (refine sI (by rfl) ?_; conv => whnf) | (refine sD (by rfl) (by rfl) ?_; conv => whnf) | (generalize hE : keepE _ _ = e0; revert hE; apply kI; (repeat (first | exact kN _ | (apply kC; with_unfolding_all rfl; rfl))); rintro rfl; conv => whnf))
  refine call_pf hm (by rfl) (hs k) ?_
  (try refine And.intro (by rfl) ?_); (conv => whnf); repeat (first | (refine sI (by rfl) ?_; conv => whnf) | (refine sD (by rfl) (by rfl) ?_; conv => whnf) | (generalize hE : keepE _ _ = e0; revert hE; apply kI; (repeat (first | exact kN _ | (apply kC; with_unfolding_all rfl; rfl))); rintro rfl; conv => whnf))
  exact ⟨_, rfl, Ret.sta trivial⟩

/-- a function to which pieces are handed: what it holds grows -/
def Tells (C : CallT) (f : FuncId) (cs : List AV) (L : Nat) (Φ : List UInt8 → St → Prop) : Prop :=
  ∀ s acc S, acc.length + s.length ≤ L → Φ acc S → C f (.str s :: cs) S fun r S' => r = .ret (.tup []) ∧ Φ (acc ++ s) S'

abbrev E_pieces (f : FuncId) (cs : List AV) (n : PN) (kids : List PN) (i : Int) : Env := [(1, .val (.fn f [] cs)), (2, .box (encN n).cells), (21, .val (.sl 14 stat (encNs kids))), (22, .val (.int .i64 (encNs kids).length)), (23, .val (.int .i64 i))]

set_option maxHeartbeats 2000000 in
theorem pieces_wp (hm : MonoC C) {f : FuncId} {cs : List AV} {L : Nat} {Φ : List UInt8 → St → Prop} (ht : Tells C f cs L Φ)
    (hl : ∀ n, PF C 58 [encN n] (.bool (leafK n.k)))
    {n : PN} (ih : ∀ u, u.n < n.n → u.ok → ∀ acc S, acc.length + (flatB u).length ≤ L → Φ acc S → C 36 [encN u, .fn f [] cs] S fun r S' => r = .ret (.tup []) ∧ Φ (acc ++ flatB u) S') {acc : List UInt8} {S : St} (hL : acc.length + (flatB n).length ≤ L) (hb : n.ok) (hΦ : Φ acc S) :
    wpF gt C F36 [encN n, .fn f [] cs] S fun r S' => r = .ret (.tup []) ∧ Φ (acc ++ flatB n) S' := by
  have hl := hl n
  obtain ⟨k, a, b, c, leaf, h, kids, seps, t, e, f'⟩ := n
  simp only [PN.ok] at hb
  obtain ⟨q1, q2, q3, q4⟩ := hb
  have hlen := encNs_len kids
  have hls := strs_length seps
  simp only [flatB, List.length_append] at hL
  simp only [flatB]
  refine ⟨rfl, ?_⟩
  (try refine And.intro (by rfl) ?_); (conv => whnf); repeat (first | (refine sI (by rfl) ?_; conv => whnf) | (refine sD (by rfl) (by rfl) ?_; conv => whnf) | (generalize hE : keepE _ _ = e0; revert hE; apply kI; (repeat (first | exact kN _ | (apply kC; with_unfolding_all rfl; rfl))); rintro rfl; conv => whnf))
  refine call_rule (by rfl) (hm _ _ _ _ _ (ht a acc S (by omega) hΦ) ?_)
  rintro r S1 ⟨rfl, hΦ⟩
  (try refine And.intro (by rfl) ?_); (conv => whnf); repeat (first | (refine sI (by rfl) ?_; conv => whnf) | (refine sD (by rfl) (by rfl) ?_; conv => whnf) | (generalize hE : keepE _ _ = e0; revert hE; apply kI; (repeat (first | exact kN _ | (apply kC; with_unfolding_all rfl; rfl))); rintro rfl; conv => whnf))
  refine call_pf hm (by rfl) hl ?_
  rw [show (PN.mk k a b c leaf h kids seps t e f').k = k from rfl]
  (try refine And.intro (by rfl) ?_); (conv => whnf); repeat (first | (refine sI (by rfl) ?_; conv => whnf) | (refine sD (by rfl) (by rfl) ?_; conv => whnf) | (generalize hE : keepE _ _ = e0; revert hE; apply kI; (repeat (first | exact kN _ | (apply kC; with_unfolding_all rfl; rfl))); rintro rfl; conv => whnf))
  cases hk : leafK k with
  | true =>
    (try refine And.intro (by rfl) ?_); (conv => whnf); repeat (first | (refine sI (by rfl) ?_; conv => whnf) | (refine sD (by rfl) (by rfl) ?_; conv => whnf) | (generalize hE : keepE _ _ = e0; revert hE; apply kI; (repeat (first | exact kN _ | (apply kC; with_unfolding_all rfl; rfl))); rintro rfl; conv => whnf))
    rw [hk, if_pos rfl] at hL
    refine call_rule (by rfl) (hm _ _ _ _ _ (ht c _ S1 (by simp only [List.length_append]; omega) hΦ) ?_)
    rintro r S2 ⟨rfl, hΦ⟩
    (try refine And.intro (by rfl) ?_); (conv => whnf); repeat (first | (refine sI (by rfl) ?_; conv => whnf) | (refine sD (by rfl) (by rfl) ?_; conv => whnf) | (generalize hE : keepE _ _ = e0; revert hE; apply kI; (repeat (first | exact kN _ | (apply kC; with_unfolding_all rfl; rfl))); rintro rfl; conv => whnf))
    refine call_rule (by rfl) (hm _ _ _ _ _ (ht e _ S2 (by simp only [List.length_append]; omega) hΦ) ?_)
    rintro r S3 ⟨rfl, hΦ⟩
    (try refine And.intro (by rfl) ?_); (conv => whnf); repeat (first | (refine sI (by rfl) ?_; conv => whnf) | (refine sD (by rfl) (by rfl) ?_; conv => whnf) | (generalize hE : keepE _ _ = e0; revert hE; apply kI; (repeat (first | exact kN _ | (apply kC; with_unfolding_all rfl; rfl))); rintro rfl; conv => whnf))
    refine ⟨_, rfl, rfl, ?_⟩
    rw [if_pos rfl, ← List.append_assoc, ← List.append_assoc]
    exact hΦ
  | false =>
    (try refine And.intro (by rfl) ?_); (conv => whnf); repeat (first | (refine sI (by rfl) ?_; conv => whnf) | (refine sD (by rfl) (by rfl) ?_; conv => whnf) | (generalize hE : keepE _ _ = e0; revert hE; apply kI; (repeat (first | exact kN _ | (apply kC; with_unfolding_all rfl; rfl))); rintro rfl; conv => whnf))
    simp only [hk, Bool.false_eq_true, if_false, List.length_append] at hL
    refine call_rule (by rfl) (hm _ _ _ _ _ (ht h _ S1 (by simp only [List.length_append]; omega) hΦ) ?_)
    rintro r S2 ⟨rfl, hΦ⟩
    (try refine And.intro (by rfl) ?_); (conv => whnf); repeat (first | (refine sI (by rfl) ?_; conv => whnf) | (refine sD (by rfl) (by rfl) ?_; conv => whnf) | (generalize hE : keepE _ _ = e0; revert hE; apply kI; (repeat (first | exact kN _ | (apply kC; with_unfolding_all rfl; rfl))); rintro rfl; conv => whnf))
    refine loop_rule hm (α := Nat) (fun i env S' => i ≤ kids.length ∧ env = E_pieces f cs (.mk k a b c leaf h kids seps t e f') kids i ∧ ∃ out, Φ (acc ++ (a ++ (h ++ out))) S' ∧ flatKs kids seps 0 = out ++ flatKs (kids.drop i) seps i) (fun i => kids.length - i) ?_ (a := 0) ⟨Nat.zero_le _, rfl, [], by rw [List.append_nil, ← List.append_assoc]; exact hΦ, rfl⟩
    clear hΦ
    rintro i env S' ⟨hi, rfl, out, hΦ, hp⟩
    (try refine And.intro (by rfl) ?_); (conv => whnf); repeat (first | (refine sI (by rfl) ?_; conv => whnf) | (refine sD (by rfl) (by rfl) ?_; conv => whnf) | (generalize hE : keepE _ _ = e0; revert hE; apply kI; (repeat (first | exact kN _ | (apply kC; with_unfolding_all rfl; rfl))); rintro rfl; conv => whnf))
    by_cases hc : (i : Int) < (encNs kids).length
    · rw [decide_eq_true hc]
      (try refine And.intro (by rfl) ?_); (conv => whnf); repeat (first | (refine sI (by rfl) ?_; conv => whnf) | (refine sD (by rfl) (by rfl) ?_; conv => whnf) | (generalize hE : keepE _ _ = e0; revert hE; apply kI; (repeat (first | exact kN _ | (apply kC; with_unfolding_all rfl; rfl))); rintro rfl; conv => whnf))
      have hik : i < kids.length := by omega
      rw [flatKs_step hik] at hp
      have hlen2 := congrArg List.length hp
      simp only [List.length_append] at hlen2
      refine step_ruleO (sx_ia (k := i) rfl rfl (by omega)) ?_
      (try refine And.intro (by rfl) ?_); (conv => whnf); repeat (first | (refine sI (by rfl) ?_; conv => whnf) | (refine sD (by rfl) (by rfl) ?_; conv => whnf) | (generalize hE : keepE _ _ = e0; revert hE; apply kI; (repeat (first | exact kN _ | (apply kC; with_unfolding_all rfl; rfl))); rintro rfl; conv => whnf))
      refine step_ruleO (sx_ldEl (agg := true) rfl rfl (encNs_get hik) (rdN _)) ?_
      have ihk := ih _ (kidN_lt hik) (PN.oks_get hik q4)
      obtain ⟨w0, w1, w2, w3, w4, w5, w6, w7, w8, w9, w10, w11, w12, w13, he⟩ := encN_agg kids[i]
      rw [he] at ihk ⊢
      (try refine And.intro (by rfl) ?_); (conv => whnf); repeat (first | (refine sI (by rfl) ?_; conv => whnf) | (refine sD (by rfl) (by rfl) ?_; conv => whnf) | (generalize hE : keepE _ _ = e0; revert hE; apply kI; (repeat (first | exact kN _ | (apply kC; with_unfolding_all rfl; rfl))); rintro rfl; conv => whnf))
      by_cases h0 : (i : Int) > 0
      · rw [decide_eq_true h0]
        (try refine And.intro (by rfl) ?_); (conv => whnf); repeat (first | (refine sI (by rfl) ?_; conv => whnf) | (refine sD (by rfl) (by rfl) ?_; conv => whnf) | (generalize hE : keepE _ _ = e0; revert hE; apply kI; (repeat (first | exact kN _ | (apply kC; with_unfolding_all rfl; rfl))); rintro rfl; conv => whnf))
        rw [wr64 (by omega) (by omega)]
        by_cases h1 : (i : Int) - 1 < (strs seps).length
        · rw [decide_eq_true h1]
          (try refine And.intro (by rfl) ?_); (conv => whnf); repeat (first | (refine sI (by rfl) ?_; conv => whnf) | (refine sD (by rfl) (by rfl) ?_; conv => whnf) | (generalize hE : keepE _ _ = e0; revert hE; apply kI; (repeat (first | exact kN _ | (apply kC; with_unfolding_all rfl; rfl))); rintro rfl; conv => whnf))
          have hj : i - 1 < seps.length := by omega
          have hsep : sepAt seps i = seps[i - 1] := by simp [sepAt, List.getElem?_eq_getElem hj]; omega
          refine step_ruleO (sx_ia (k := i - 1) rfl (by show nat? (.int .i64 (wr .i64 ((i : Int) - 1))) = _; rw [wr64 (by omega) (by omega), show (i : Int) - 1 = ((i - 1 : Nat) : Int) by omega]; rfl) (by omega)) ?_
          (try refine And.intro (by rfl) ?_); (conv => whnf); repeat (first | (refine sI (by rfl) ?_; conv => whnf) | (refine sD (by rfl) (by rfl) ?_; conv => whnf) | (generalize hE : keepE _ _ = e0; revert hE; apply kI; (repeat (first | exact kN _ | (apply kC; with_unfolding_all rfl; rfl))); rintro rfl; conv => whnf))
          refine step_ruleO (sx_ldEl (agg := false) rfl rfl (strs_at hj) rfl) ?_
          (try refine And.intro (by rfl) ?_); (conv => whnf); repeat (first | (refine sI (by rfl) ?_; conv => whnf) | (refine sD (by rfl) (by rfl) ?_; conv => whnf) | (generalize hE : keepE _ _ = e0; revert hE; apply kI; (repeat (first | exact kN _ | (apply kC; with_unfolding_all rfl; rfl))); rintro rfl; conv => whnf))
          rw [hsep] at hp hlen2
          refine call_rule (by rfl) (hm _ _ _ _ _ (ht seps[i - 1] _ S' (by simp only [List.length_append]; omega) hΦ) ?_)
          rintro r S4 ⟨rfl, hΦ⟩
          (try refine And.intro (by rfl) ?_); (conv => whnf); repeat (first | (refine sI (by rfl) ?_; conv => whnf) | (refine sD (by rfl) (by rfl) ?_; conv => whnf) | (generalize hE : keepE _ _ = e0; revert hE; apply kI; (repeat (first | exact kN _ | (apply kC; with_unfolding_all rfl; rfl))); rintro rfl; conv => whnf))
          refine call_rule (by rfl) (hm _ _ _ _ _ (ihk _ S4 (by simp only [List.length_append]; omega) hΦ) ?_)
          rintro r S5 ⟨rfl, hΦ⟩
          (try refine And.intro (by rfl) ?_); (conv => whnf); repeat (first | (refine sI (by rfl) ?_; conv => whnf) | (refine sD (by rfl) (by rfl) ?_; conv => whnf) | (generalize hE : keepE _ _ = e0; revert hE; apply kI; (repeat (first | exact kN _ | (apply kC; with_unfolding_all rfl; rfl))); rintro rfl; conv => whnf))
          refine ⟨i + 1, ⟨by omega, ?_, out ++ (seps[i - 1] ++ flatB kids[i]), ?_, ?_⟩, by omega⟩
          · rw [wrNat (by omega)]; try rfl
          · simpa only [List.append_assoc] using hΦ
          · rw [hp]; simp only [List.append_assoc]
        · rw [decide_eq_false h1]
          (try refine And.intro (by rfl) ?_); (conv => whnf); repeat (first | (refine sI (by rfl) ?_; conv => whnf) | (refine sD (by rfl) (by rfl) ?_; conv => whnf) | (generalize hE : keepE _ _ = e0; revert hE; apply kI; (repeat (first | exact kN _ | (apply kC; with_unfolding_all rfl; rfl))); rintro rfl; conv => whnf))
          have hsep : sepAt seps i = [] := by simp only [sepAt]; rw [List.getElem?_eq_none (by omega)]; simp
          rw [hsep, List.nil_append] at hp
          refine call_rule (by rfl) (hm _ _ _ _ _ (ihk _ S' (by simp only [List.length_append]; omega) hΦ) ?_)
          rintro r S5 ⟨rfl, hΦ⟩
          (try refine And.intro (by rfl) ?_); (conv => whnf); repeat (first | (refine sI (by rfl) ?_; conv => whnf) | (refine sD (by rfl) (by rfl) ?_; conv => whnf) | (generalize hE : keepE _ _ = e0; revert hE; apply kI; (repeat (first | exact kN _ | (apply kC; with_unfolding_all rfl; rfl))); rintro rfl; conv => whnf))
          refine ⟨i + 1, ⟨by omega, ?_, out ++ flatB kids[i], ?_, ?_⟩, by omega⟩
          · rw [wrNat (by omega)]; try rfl
          · simpa only [List.append_assoc] using hΦ
          · rw [hp]; simp only [List.append_assoc]
      · rw [decide_eq_false h0]
        (try refine And.intro (by rfl) ?_); (conv => whnf); repeat (first | (refine sI (by rfl) ?_; conv => whnf) | (refine sD (by rfl) (by rfl) ?_; conv => whnf) | (generalize hE : keepE _ _ = e0; revert hE; apply kI; (repeat (first | exact kN _ | (apply kC; with_unfolding_all rfl; rfl))); rintro rfl; conv => whnf))
        have hsep : sepAt seps i = [] := by simp only [sepAt]; rw [if_neg (by omega)]
        rw [hsep, List.nil_append] at hp
        refine call_rule (by rfl) (hm _ _ _ _ _ (ihk _ S' (by simp only [List.length_append]; omega) hΦ) ?_)
        rintro r S5 ⟨rfl, hΦ⟩
        (try refine And.intro (by rfl) ?_); (conv => whnf); repeat (first | (refine sI (by rfl) ?_; conv => whnf) | (refine sD (by rfl) (by rfl) ?_; conv => whnf) | (generalize hE : keepE _ _ = e0; revert hE; apply kI; (repeat (first | exact kN _ | (apply kC; with_unfolding_all rfl; rfl))); rintro rfl; conv => whnf))
        refine ⟨i + 1, ⟨by omega, ?_, out ++ flatB kids[i], ?_, ?_⟩, by omega⟩
        · rw [wrNat (by omega)]; try rfl
        · simpa only [List.append_assoc] using hΦ
        · rw [hp]; simp only [List.append_assoc]
    · rw [decide_eq_false hc]
      (try refine And.intro (by rfl) ?_); (conv => whnf); repeat (first | (refine sI (by rfl) ?_; conv => whnf) | (refine sD (by rfl) (by rfl) ?_; conv => whnf) | (generalize hE : keepE _ _ = e0; revert hE; apply kI; (repeat (first | exact kN _ | (apply kC; with_unfolding_all rfl; rfl))); rintro rfl; conv => whnf))
      rw [List.drop_eq_nil_of_le (by omega)] at hp
      simp only [flatKs, List.append_nil] at hp
      subst hp
      refine call_rule (by rfl) (hm _ _ _ _ _ (ht t _ S' (by simp only [List.length_append]; omega) hΦ) ?_)
      rintro r S4 ⟨rfl, hΦ⟩
      (try refine And.intro (by rfl) ?_); (conv => whnf); repeat (first | (refine sI (by rfl) ?_; conv => whnf) | (refine sD (by rfl) (by rfl) ?_; conv => whnf) | (generalize hE : keepE _ _ = e0; revert hE; apply kI; (repeat (first | exact kN _ | (apply kC; with_unfolding_all rfl; rfl))); rintro rfl; conv => whnf))
      refine call_rule (by rfl) (hm _ _ _ _ _ (ht e _ S4 (by simp only [List.length_append]; omega) hΦ) ?_)
      rintro r S5 ⟨rfl, hΦ⟩
      (try refine And.intro (by rfl) ?_); (conv => whnf); repeat (first | (refine sI (by rfl) ?_; conv => whnf) | (refine sD (by rfl) (by rfl) ?_; conv => whnf) | (generalize hE : keepE _ _ = e0; revert hE; apply kI; (repeat (first | exact kN _ | (apply kC; with_unfolding_all rfl; rfl))); rintro rfl; conv => whnf))
      refine ⟨_, rfl, rfl, ?_⟩
      simpa only [List.append_assoc, Bool.false_eq_true, if_false] using hΦ

/-- what cst.Len's closure holds -/
def LenAt (acc : List UInt8) (S : St) : Prop := Hs S [.bx 0 3 [.int .i64 acc.length]]

set_option maxHeartbeats 2000000 in
theorem lenTell_wp {s acc : List UInt8} {S : St} (hL : acc.length + s.length ≤ 4611686018427387904) (h : LenAt acc S) : wpF gt C F39 [.str s, .ptr 0 0] S fun r S' => r = .ret (.tup []) ∧ LenAt (acc ++ s) S' := by
  have h := h
  unfold LenAt at h
  have hb := (h.ok 0 _ rfl).2
  refine ⟨rfl, ?_⟩
  (try refine And.intro (by rfl) ?_); (conv => whnf); repeat (first | (refine sI (by rfl) ?_; conv => whnf) | (refine sD (by rfl) (by rfl) ?_; conv => whnf) | (generalize hE : keepE _ _ = e0; revert hE; apply kI; (repeat (first | exact kN _ | (apply kC; with_unfolding_all rfl; rfl))); rintro rfl; conv => whnf))
  refine step_ruleO (sx_ldHp rfl hb rfl) ?_
  (try refine And.intro (by rfl) ?_); (conv => whnf); repeat (first | (refine sI (by rfl) ?_; conv => whnf) | (refine sD (by rfl) (by rfl) ?_; conv => whnf) | (generalize hE : keepE _ _ = e0; revert hE; apply kI; (repeat (first | exact kN _ | (apply kC; with_unfolding_all rfl; rfl))); rintro rfl; conv => whnf))
  refine step_ruleO (sx_stHp rfl rfl rfl hb (by simp [AV.cells])) ?_
  (try refine And.intro (by rfl) ?_); (conv => whnf); repeat (first | (refine sI (by rfl) ?_; conv => whnf) | (refine sD (by rfl) (by rfl) ?_; conv => whnf) | (generalize hE : keepE _ _ = e0; revert hE; apply kI; (repeat (first | exact kN _ | (apply kC; with_unfolding_all rfl; rfl))); rintro rfl; conv => whnf))
  refine ⟨_, rfl, rfl, ?_⟩
  have := h.boxTo (i := 0) rfl [.int .i64 ((acc ++ s).length : Int)]
  rw [wr64 (by omega) (by omega)]
  unfold LenAt
  simp only [List.length_append, Int.natCast_add] at this ⊢
  exact this

set_option maxHeartbeats 2000000 in
theorem len_wp (hm : MonoC C) (hp : ∀ n : PN, n.ok → (flatB n).length ≤ 4611686018427387904 → ∀ acc S, acc.length + (flatB n).length ≤ 4611686018427387904 → LenAt acc S → C 36 [encN n, .fn 39 [] [.ptr 0 0]] S fun r S' => r = .ret (.tup []) ∧ LenAt (acc ++ flatB n) S')
    {n : PN} (hb : n.ok) (hL : (flatB n).length ≤ 4611686018427387904) : wpF gt C F12 [encN n] St.init (Ret (.int .i64 (flatB n).length)) := by
  have hp := hp n hb hL
  obtain ⟨w0, w1, w2, w3, w4, w5, w6, w7, w8, w9, w10, w11, w12, w13, he⟩ := encN_agg n
  rw [he] at hp ⊢
  refine ⟨rfl, ?_⟩
  (try refine And.intro (by rfl) ?_); (conv => whnf); repeat (first | (refine sI (by rfl) ?_; conv => whnf) | (refine sD (by rfl) (by rfl) ?_; conv => whnf) | (generalize hE : keepE _ _ = e0; revert hE; apply kI; (repeat (first | exact kN _ | (apply kC; with_unfolding_all rfl; rfl))); rintro rfl; conv => whnf))
  refine call_rule (by rfl) (hm _ _ _ _ _ (hp [] _ (by simpa using hL) ((Hs.init.newBox 3 [.int .i64 0]).boxTo (i := 0) rfl [.int .i64 0])) ?_)
  rintro r S' ⟨rfl, h⟩
  unfold LenAt at h
  have hb := (h.ok 0 _ rfl).2
  (try refine And.intro (by rfl) ?_); (conv => whnf); repeat (first | (refine sI (by rfl) ?_; conv => whnf) | (refine sD (by rfl) (by rfl) ?_; conv => whnf) | (generalize hE : keepE _ _ = e0; revert hE; apply kI; (repeat (first | exact kN _ | (apply kC; with_unfolding_all rfl; rfl))); rintro rfl; conv => whnf))
  refine step_ruleO (sx_ldHp rfl hb rfl) ?_
  (try refine And.intro (by rfl) ?_); (conv => whnf); repeat (first | (refine sI (by rfl) ?_; conv => whnf) | (refine sD (by rfl) (by rfl) ?_; conv => whnf) | (generalize hE : keepE _ _ = e0; revert hE; apply kI; (repeat (first | exact kN _ | (apply kC; with_unfolding_all rfl; rfl))); rintro rfl; conv => whnf))
  exact ⟨_, rfl, Ret.sta trivial⟩
end
end Go.Dn

namespace Go.Dn
open Go Go.Proofs.C1
set_option maxRecDepth 100000
attribute [local irreducible] afterS keepE

theorem ofBytes_app (a b : List UInt8) : ofBytes (a ++ b) = ofBytes a ++ ofBytes b := by simp [ofBytes]
theorem ofBytes_len (a : List UInt8) : (ofBytes a).length = a.length := by simp [ofBytes]
theorem ofBytes_ok : ∀ a : List UInt8, ((ofBytes a).flatMap AV.cells).all ok1 = true
  | [] => rfl
  | x :: r => by simp [ofBytes, AV.cells, ok1]
theorem bytes_of : ∀ a : List UInt8, bytes? (ofBytes a) = some a
  | [] => rfl
  | x :: r => by
    have := bytes_of r
    simp only [ofBytes] at this
    simp [ofBytes, bytes?, this]

theorem sx_cvBS {gt : GT} {d : Option Nat} {env : Env} {S : St} {x : DOpd} {o : SI} {xs ys : List AV} {s : List UInt8} (hx : opd env x = some (.sl 1 o xs)) (he : elems S false 1 o xs = some ys) (hy : bytes? ys = some s) :
    stepO gt d env S (.cvBS x) = .done (putV d (.str s) env) S := by
  simp only [stepO, hx, he, Option.bind_some, hy, Option.map_some, SR.val]

section
variable {gt : GT} {C : CallT}

/-- bytes behind others -/
def Flats (C : CallT) (f : FuncId) (n : PN) : Prop := ∀ S R i o xs, Hs S R → R[i]? = some (.gr 5 o xs) → xs.length + (flatB n).length ≤ 140737488355328 →
  C f [.sl 1 o xs, encN n] S fun r S' => ∃ o' ys, r = .ret (.sl 1 o' ys) ∧ Hs S' (R.set i (.gr 5 o' ys)) ∧ ys = xs ++ ofBytes (flatB n)

abbrev E_flat (n : PN) (o : SI) (ys : List AV) (i : Int) : Env := [(0, .val (.sl 1 o ys)), (3, .box (encN n).cells), (5, .val (.int .i64 i))]

set_option maxHeartbeats 2000000 in
theorem flat_wp (hm : MonoC C) (hlf : ∀ k, PF C 48 [.int .i64 k] (.bool (leafK k))) {n : PN} (ih : ∀ u, u.n < n.n → u.ok → Flats C 47 u) (hb : n.ok) {S : St} {R : List Rs} {j : Nat} {o : SI} {xs : List AV} (hR : Hs S R) (hj : R[j]? = some (.gr 5 o xs)) (hL : xs.length + (flatB n).length ≤ 140737488355328) :
    wpF gt C F47 [.sl 1 o xs, encN n] S fun r S' => ∃ o' ys, r = .ret (.sl 1 o' ys) ∧ Hs S' (R.set j (.gr 5 o' ys)) ∧ ys = xs ++ ofBytes (flatB n) := by
  obtain ⟨k, a, b, c, leaf, h, kids, seps, t, e, f⟩ := n
  simp only [PN.ok] at hb
  obtain ⟨q1, q2, q3, q4⟩ := hb
  have hlen := encNs_len kids
  have hls := strs_length seps
  simp only [flatB, List.length_append] at hL
  simp only [flatB]
  refine ⟨rfl, ?_⟩
  (try refine And.intro (by rfl) ?_); (conv => whnf); repeat (first | (refine sI (by rfl) ?_; conv => whnf) | (refine sD (by rfl) (by rfl) ?_; conv => whnf) | (generalize hE : keepE _ _ = e0; revert hE; apply kI; (repeat (first | exact kN _ | (apply kC; with_unfolding_all rfl; rfl))); rintro rfl; conv => whnf))
  refine r_app hR j hj trivial rfl rfl rfl (by rw [ofBytes_len]; omega) (by rw [ofBytes_len]; omega) (by decide) (by decide) (ofBytes_ok a) ?_
  generalize hy : xs ++ ofBytes a = ys
  intro o1 S1 hR
  have hj1 := set_at (y := Rs.gr 5 o1 ys) hj
  have ly := congrArg List.length hy
  simp only [List.length_append, ofBytes_len] at ly
  (try refine And.intro (by rfl) ?_); (conv => whnf); repeat (first | (refine sI (by rfl) ?_; conv => whnf) | (refine sD (by rfl) (by rfl) ?_; conv => whnf) | (generalize hE : keepE _ _ = e0; revert hE; apply kI; (repeat (first | exact kN _ | (apply kC; with_unfolding_all rfl; rfl))); rintro rfl; conv => whnf))
  refine call_pf hm (by rfl) (hlf k) ?_
  (try refine And.intro (by rfl) ?_); (conv => whnf); repeat (first | (refine sI (by rfl) ?_; conv => whnf) | (refine sD (by rfl) (by rfl) ?_; conv => whnf) | (generalize hE : keepE _ _ = e0; revert hE; apply kI; (repeat (first | exact kN _ | (apply kC; with_unfolding_all rfl; rfl))); rintro rfl; conv => whnf))
  cases hk : leafK k with
  | true =>
    (try refine And.intro (by rfl) ?_); (conv => whnf); repeat (first | (refine sI (by rfl) ?_; conv => whnf) | (refine sD (by rfl) (by rfl) ?_; conv => whnf) | (generalize hE : keepE _ _ = e0; revert hE; apply kI; (repeat (first | exact kN _ | (apply kC; with_unfolding_all rfl; rfl))); rintro rfl; conv => whnf))
    rw [hk, if_pos rfl] at hL
    refine r_appD hR j hj1 (by trivial) rfl rfl rfl (by rw [ofBytes_len]; omega) (by rw [ofBytes_len]; omega) (by decide) (by decide) (ofBytes_ok c) ?_
    generalize hy2 : ys ++ ofBytes c = ys2
    intro o2 S2 hR
    rw [List.set_set] at hR
    have hj2 := set_at (y := Rs.gr 5 o2 ys2) hj
    have ly2 := congrArg List.length hy2
    simp only [List.length_append, ofBytes_len] at ly2
    (try refine And.intro (by rfl) ?_); (conv => whnf); repeat (first | (refine sI (by rfl) ?_; conv => whnf) | (refine sD (by rfl) (by rfl) ?_; conv => whnf) | (generalize hE : keepE _ _ = e0; revert hE; apply kI; (repeat (first | exact kN _ | (apply kC; with_unfolding_all rfl; rfl))); rintro rfl; conv => whnf))
    refine r_appD hR j hj2 (by trivial) rfl rfl rfl (by rw [ofBytes_len]; omega) (by rw [ofBytes_len]; omega) (by decide) (by decide) (ofBytes_ok e) ?_
    intro o3 S3 hR
    rw [List.set_set] at hR
    (try refine And.intro (by rfl) ?_); (conv => whnf); repeat (first | (refine sI (by rfl) ?_; conv => whnf) | (refine sD (by rfl) (by rfl) ?_; conv => whnf) | (generalize hE : keepE _ _ = e0; revert hE; apply kI; (repeat (first | exact kN _ | (apply kC; with_unfolding_all rfl; rfl))); rintro rfl; conv => whnf))
    refine ⟨_, rfl, _, _, rfl, hR, ?_⟩
    rw [if_pos rfl, ← hy2, ← hy]
    simp only [ofBytes_app, List.append_assoc]
  | false =>
    (try refine And.intro (by rfl) ?_); (conv => whnf); repeat (first | (refine sI (by rfl) ?_; conv => whnf) | (refine sD (by rfl) (by rfl) ?_; conv => whnf) | (generalize hE : keepE _ _ = e0; revert hE; apply kI; (repeat (first | exact kN _ | (apply kC; with_unfolding_all rfl; rfl))); rintro rfl; conv => whnf))
    simp only [hk, Bool.false_eq_true, if_false, List.length_append] at hL
    refine r_app hR j hj1 trivial rfl rfl rfl (by rw [ofBytes_len]; omega) (by rw [ofBytes_len]; omega) (by decide) (by decide) (ofBytes_ok h) ?_
    generalize hy2 : ys ++ ofBytes h = ys2
    intro o2 S2 hR
    rw [List.set_set] at hR
    clear hj1 ly
    (try refine And.intro (by rfl) ?_); (conv => whnf); repeat (first | (refine sI (by rfl) ?_; conv => whnf) | (refine sD (by rfl) (by rfl) ?_; conv => whnf) | (generalize hE : keepE _ _ = e0; revert hE; apply kI; (repeat (first | exact kN _ | (apply kC; with_unfolding_all rfl; rfl))); rintro rfl; conv => whnf))
    refine loop_rule hm (α := Nat) (fun i env S' => i ≤ kids.length ∧ ∃ o ys out, Hs S' (R.set j (.gr 5 o ys)) ∧ env = E_flat (.mk k a b c leaf h kids seps t e f) o ys i ∧ ys = xs ++ ofBytes (a ++ (h ++ out)) ∧ flatKs kids seps 0 = out ++ flatKs (kids.drop i) seps i) (fun i => kids.length - i) ?_ (a := 0) ⟨Nat.zero_le _, o2, ys2, [], hR, rfl, by rw [← hy2, ← hy]; simp [ofBytes_app], rfl⟩
    rintro i env S' ⟨hi, o1, ys, out, hR, rfl, hy, hp⟩
    have hj1 := set_at (y := Rs.gr 5 o1 ys) hj
    have ly := congrArg List.length hy
    simp only [List.length_append, ofBytes_len] at ly
    (try refine And.intro (by rfl) ?_); (conv => whnf); repeat (first | (refine sI (by rfl) ?_; conv => whnf) | (refine sD (by rfl) (by rfl) ?_; conv => whnf) | (generalize hE : keepE _ _ = e0; revert hE; apply kI; (repeat (first | exact kN _ | (apply kC; with_unfolding_all rfl; rfl))); rintro rfl; conv => whnf))
    by_cases hc : (i : Int) < (encNs kids).length
    · rw [decide_eq_true hc]
      (try refine And.intro (by rfl) ?_); (conv => whnf); repeat (first | (refine sI (by rfl) ?_; conv => whnf) | (refine sD (by rfl) (by rfl) ?_; conv => whnf) | (generalize hE : keepE _ _ = e0; revert hE; apply kI; (repeat (first | exact kN _ | (apply kC; with_unfolding_all rfl; rfl))); rintro rfl; conv => whnf))
      have hik : i < kids.length := by omega
      rw [flatKs_step hik] at hp
      have hlen2 := congrArg List.length hp
      simp only [List.length_append] at hlen2
      have ihk := ih _ (kidN_lt hik) (PN.oks_get hik q4)
      unfold Flats at ihk
      have hge := encNs_get hik
      have hrd := rdN kids[i]
      obtain ⟨w0, w1, w2, w3, w4, w5, w6, w7, w8, w9, w10, w11, w12, w13, he⟩ := encN_agg kids[i]
      rw [he] at ihk hge hrd
      by_cases h0 : (i : Int) > 0
      · rw [decide_eq_true h0]
        (try refine And.intro (by rfl) ?_); (conv => whnf); repeat (first | (refine sI (by rfl) ?_; conv => whnf) | (refine sD (by rfl) (by rfl) ?_; conv => whnf) | (generalize hE : keepE _ _ = e0; revert hE; apply kI; (repeat (first | exact kN _ | (apply kC; with_unfolding_all rfl; rfl))); rintro rfl; conv => whnf))
        rw [wr64 (by omega) (by omega)]
        by_cases h1 : (i : Int) - 1 < (strs seps).length
        · rw [decide_eq_true h1]
          (try refine And.intro (by rfl) ?_); (conv => whnf); repeat (first | (refine sI (by rfl) ?_; conv => whnf) | (refine sD (by rfl) (by rfl) ?_; conv => whnf) | (generalize hE : keepE _ _ = e0; revert hE; apply kI; (repeat (first | exact kN _ | (apply kC; with_unfolding_all rfl; rfl))); rintro rfl; conv => whnf))
          have hjj : i - 1 < seps.length := by omega
          have hsep : sepAt seps i = seps[i - 1] := by simp [sepAt, List.getElem?_eq_getElem hjj]; omega
          rw [hsep] at hp hlen2
          refine step_ruleO (sx_ia (k := i - 1) rfl (by show nat? (.int .i64 (wr .i64 ((i : Int) - 1))) = _; rw [wr64 (by omega) (by omega), show (i : Int) - 1 = ((i - 1 : Nat) : Int) by omega]; rfl) (by omega)) ?_
          (try refine And.intro (by rfl) ?_); (conv => whnf); repeat (first | (refine sI (by rfl) ?_; conv => whnf) | (refine sD (by rfl) (by rfl) ?_; conv => whnf) | (generalize hE : keepE _ _ = e0; revert hE; apply kI; (repeat (first | exact kN _ | (apply kC; with_unfolding_all rfl; rfl))); rintro rfl; conv => whnf))
          refine step_ruleO (sx_ldEl (agg := false) rfl rfl (strs_at hjj) rfl) ?_
          (try refine And.intro (by rfl) ?_); (conv => whnf); repeat (first | (refine sI (by rfl) ?_; conv => whnf) | (refine sD (by rfl) (by rfl) ?_; conv => whnf) | (generalize hE : keepE _ _ = e0; revert hE; apply kI; (repeat (first | exact kN _ | (apply kC; with_unfolding_all rfl; rfl))); rintro rfl; conv => whnf))
          refine r_app hR j hj1 trivial rfl rfl rfl (by rw [ofBytes_len]; omega) (by rw [ofBytes_len]; omega) (by decide) (by decide) (ofBytes_ok _) ?_
          generalize hy2 : ys ++ ofBytes seps[i - 1] = ys2
          intro o2 S2 hR
          rw [List.set_set] at hR
          have hj2 := set_at (y := Rs.gr 5 o2 ys2) hj
          have ly2 := congrArg List.length hy2
          simp only [List.length_append, ofBytes_len] at ly2
          (try refine And.intro (by rfl) ?_); (conv => whnf); repeat (first | (refine sI (by rfl) ?_; conv => whnf) | (refine sD (by rfl) (by rfl) ?_; conv => whnf) | (generalize hE : keepE _ _ = e0; revert hE; apply kI; (repeat (first | exact kN _ | (apply kC; with_unfolding_all rfl; rfl))); rintro rfl; conv => whnf))
          refine step_ruleO (sx_ia (k := i) rfl rfl (by omega)) ?_
          (try refine And.intro (by rfl) ?_); (conv => whnf); repeat (first | (refine sI (by rfl) ?_; conv => whnf) | (refine sD (by rfl) (by rfl) ?_; conv => whnf) | (generalize hE : keepE _ _ = e0; revert hE; apply kI; (repeat (first | exact kN _ | (apply kC; with_unfolding_all rfl; rfl))); rintro rfl; conv => whnf))
          refine step_ruleO (sx_ldEl (agg := true) rfl rfl hge hrd) ?_
          (try refine And.intro (by rfl) ?_); (conv => whnf); repeat (first | (refine sI (by rfl) ?_; conv => whnf) | (refine sD (by rfl) (by rfl) ?_; conv => whnf) | (generalize hE : keepE _ _ = e0; revert hE; apply kI; (repeat (first | exact kN _ | (apply kC; with_unfolding_all rfl; rfl))); rintro rfl; conv => whnf))
          refine call_rule (by rfl) (hm _ _ _ _ _ (ihk S2 _ j o2 ys2 hR hj2 (by omega)) ?_)
          rintro r S3 ⟨o3, ys3, rfl, hR, hy3⟩
          rw [List.set_set] at hR
          (try refine And.intro (by rfl) ?_); (conv => whnf); repeat (first | (refine sI (by rfl) ?_; conv => whnf) | (refine sD (by rfl) (by rfl) ?_; conv => whnf) | (generalize hE : keepE _ _ = e0; revert hE; apply kI; (repeat (first | exact kN _ | (apply kC; with_unfolding_all rfl; rfl))); rintro rfl; conv => whnf))
          refine ⟨i + 1, ⟨by omega, o3, ys3, out ++ (seps[i - 1] ++ flatB kids[i]), hR, ?_, ?_, ?_⟩, by omega⟩
          · rw [wrNat (by omega)]; try rfl
          · rw [hy3, ← hy2, hy]; simp only [ofBytes_app, List.append_assoc]
          · rw [hp]; simp only [List.append_assoc]
        · rw [decide_eq_false h1]
          (try refine And.intro (by rfl) ?_); (conv => whnf); repeat (first | (refine sI (by rfl) ?_; conv => whnf) | (refine sD (by rfl) (by rfl) ?_; conv => whnf) | (generalize hE : keepE _ _ = e0; revert hE; apply kI; (repeat (first | exact kN _ | (apply kC; with_unfolding_all rfl; rfl))); rintro rfl; conv => whnf))
          have hsep : sepAt seps i = [] := by simp only [sepAt]; rw [List.getElem?_eq_none (by omega)]; simp
          rw [hsep, List.nil_append] at hp
          refine step_ruleO (sx_ia (k := i) rfl rfl (by omega)) ?_
          (try refine And.intro (by rfl) ?_); (conv => whnf); repeat (first | (refine sI (by rfl) ?_; conv => whnf) | (refine sD (by rfl) (by rfl) ?_; conv => whnf) | (generalize hE : keepE _ _ = e0; revert hE; apply kI; (repeat (first | exact kN _ | (apply kC; with_unfolding_all rfl; rfl))); rintro rfl; conv => whnf))
          refine step_ruleO (sx_ldEl (agg := true) rfl rfl hge hrd) ?_
          (try refine And.intro (by rfl) ?_); (conv => whnf); repeat (first | (refine sI (by rfl) ?_; conv => whnf) | (refine sD (by rfl) (by rfl) ?_; conv => whnf) | (generalize hE : keepE _ _ = e0; revert hE; apply kI; (repeat (first | exact kN _ | (apply kC; with_unfolding_all rfl; rfl))); rintro rfl; conv => whnf))
          refine call_rule (by rfl) (hm _ _ _ _ _ (ihk S' _ j o1 ys hR hj1 (by omega)) ?_)
          rintro r S3 ⟨o3, ys3, rfl, hR, hy3⟩
          rw [List.set_set] at hR
          (try refine And.intro (by rfl) ?_); (conv => whnf); repeat (first | (refine sI (by rfl) ?_; conv => whnf) | (refine sD (by rfl) (by rfl) ?_; conv => whnf) | (generalize hE : keepE _ _ = e0; revert hE; apply kI; (repeat (first | exact kN _ | (apply kC; with_unfolding_all rfl; rfl))); rintro rfl; conv => whnf))
          refine ⟨i + 1, ⟨by omega, o3, ys3, out ++ flatB kids[i], hR, ?_, ?_, ?_⟩, by omega⟩
          · rw [wrNat (by omega)]; try rfl
          · rw [hy3, hy]; simp only [ofBytes_app, List.append_assoc]
          · rw [hp]; simp only [List.append_assoc]
      · rw [decide_eq_false h0]
        (try refine And.intro (by rfl) ?_); (conv => whnf); repeat (first | (refine sI (by rfl) ?_; conv => whnf) | (refine sD (by rfl) (by rfl) ?_; conv => whnf) | (generalize hE : keepE _ _ = e0; revert hE; apply kI; (repeat (first | exact kN _ | (apply kC; with_unfolding_all rfl; rfl))); rintro rfl; conv => whnf))
        have hsep : sepAt seps i = [] := by simp only [sepAt]; rw [if_neg (by omega)]
        rw [hsep, List.nil_append] at hp
        refine step_ruleO (sx_ia (k := i) rfl rfl (by omega)) ?_
        (try refine And.intro (by rfl) ?_); (conv => whnf); repeat (first | (refine sI (by rfl) ?_; conv => whnf) | (refine sD (by rfl) (by rfl) ?_; conv => whnf) | (generalize hE : keepE _ _ = e0; revert hE; apply kI; (repeat (first | exact kN _ | (apply kC; with_unfolding_all rfl; rfl))); rintro rfl; conv => whnf))
        refine step_ruleO (sx_ldEl (agg := true) rfl rfl hge hrd) ?_
        (try refine And.intro (by rfl) ?_); (conv => whnf); repeat (first | (refine sI (by rfl) ?_; conv => whnf) | (refine sD (by rfl) (by rfl) ?_; conv => whnf) | (generalize hE : keepE _ _ = e0; revert hE; apply kI; (repeat (first | exact kN _ | (apply kC; with_unfolding_all rfl; rfl))); rintro rfl; conv => whnf))
        refine call_rule (by rfl) (hm _ _ _ _ _ (ihk S' _ j o1 ys hR hj1 (by omega)) ?_)
        rintro r S3 ⟨o3, ys3, rfl, hR, hy3⟩
        rw [List.set_set] at hR
        (try refine And.intro (by rfl) ?_); (conv => whnf); repeat (first | (refine sI (by rfl) ?_; conv => whnf) | (refine sD (by rfl) (by rfl) ?_; conv => whnf) | (generalize hE : keepE _ _ = e0; revert hE; apply kI; (repeat (first | exact kN _ | (apply kC; with_unfolding_all rfl; rfl))); rintro rfl; conv => whnf))
        refine ⟨i + 1, ⟨by omega, o3, ys3, out ++ flatB kids[i], hR, ?_, ?_, ?_⟩, by omega⟩
        · rw [wrNat (by omega)]; try rfl
        · rw [hy3, hy]; simp only [ofBytes_app, List.append_assoc]
        · rw [hp]; simp only [List.append_assoc]
    · rw [decide_eq_false hc]
      (try refine And.intro (by rfl) ?_); (conv => whnf); repeat (first | (refine sI (by rfl) ?_; conv => whnf) | (refine sD (by rfl) (by rfl) ?_; conv => whnf) | (generalize hE : keepE _ _ = e0; revert hE; apply kI; (repeat (first | exact kN _ | (apply kC; with_unfolding_all rfl; rfl))); rintro rfl; conv => whnf))
      rw [List.drop_eq_nil_of_le (by omega)] at hp
      simp only [flatKs, List.append_nil] at hp
      subst hp
      refine r_appD hR j hj1 (by trivial) rfl rfl rfl (by rw [ofBytes_len]; omega) (by rw [ofBytes_len]; omega) (by decide) (by decide) (ofBytes_ok t) ?_
      generalize hy2 : ys ++ ofBytes t = ys2
      intro o2 S2 hR
      rw [List.set_set] at hR
      have hj2 := set_at (y := Rs.gr 5 o2 ys2) hj
      have ly2 := congrArg List.length hy2
      simp only [List.length_append, ofBytes_len] at ly2
      (try refine And.intro (by rfl) ?_); (conv => whnf); repeat (first | (refine sI (by rfl) ?_; conv => whnf) | (refine sD (by rfl) (by rfl) ?_; conv => whnf) | (generalize hE : keepE _ _ = e0; revert hE; apply kI; (repeat (first | exact kN _ | (apply kC; with_unfolding_all rfl; rfl))); rintro rfl; conv => whnf))
      refine r_appD hR j hj2 (by trivial) rfl rfl rfl (by rw [ofBytes_len]; omega) (by rw [ofBytes_len]; omega) (by decide) (by decide) (ofBytes_ok e) ?_
      intro o3 S3 hR
      rw [List.set_set] at hR
      (try refine And.intro (by rfl) ?_); (conv => whnf); repeat (first | (refine sI (by rfl) ?_; conv => whnf) | (refine sD (by rfl) (by rfl) ?_; conv => whnf) | (generalize hE : keepE _ _ = e0; revert hE; apply kI; (repeat (first | exact kN _ | (apply kC; with_unfolding_all rfl; rfl))); rintro rfl; conv => whnf))
      refine ⟨_, rfl, _, _, rfl, hR, ?_⟩
      rw [← hy2, hy]
      simp only [ofBytes_app, List.append_assoc, Bool.false_eq_true, if_false]

set_option maxHeartbeats 2000000 in
theorem flatten_wp (hm : MonoC C) (hf : ∀ n : PN, n.ok → (flatB n).length ≤ 140737488355328 → Flats C 47 n) {n : PN} (hb : n.ok) (hL : (flatB n).length ≤ 140737488355328) : wpF gt C F19 [encN n] St.init (Ret (.str (flatB n))) := by
  have hf := hf n hb hL
  unfold Flats at hf
  obtain ⟨w0, w1, w2, w3, w4, w5, w6, w7, w8, w9, w10, w11, w12, w13, he⟩ := encN_agg n
  rw [he] at hf ⊢
  refine ⟨rfl, ?_⟩
  (try refine And.intro (by rfl) ?_); (conv => whnf); repeat (first | (refine sI (by rfl) ?_; conv => whnf) | (refine sD (by rfl) (by rfl) ?_; conv => whnf) | (generalize hE : keepE _ _ = e0; revert hE; apply kI; (repeat (first | exact kN _ | (apply kC; with_unfolding_all rfl; rfl))); rintro rfl; conv => whnf))
  refine call_ruleD (by rfl) (hm _ _ _ _ _ (hf _ _ 0 _ _ (Hs.init.addNil 5 false) rfl (by simpa using hL)) ?_)
  rintro r S' ⟨o', ys, rfl, hR, hy⟩
  rw [List.nil_append] at hy
  subst hy
  (try refine And.intro (by rfl) ?_); (conv => whnf); repeat (first | (refine sI (by rfl) ?_; conv => whnf) | (refine sD (by rfl) (by rfl) ?_; conv => whnf) | (generalize hE : keepE _ _ = e0; revert hE; apply kI; (repeat (first | exact kN _ | (apply kC; with_unfolding_all rfl; rfl))); rintro rfl; conv => whnf))
  have hel := (hR.ok 0 _ rfl).els false 1
  refine step_ruleDO rfl rfl (sx_cvBS rfl hel (bytes_of _)) ?_
  (try refine And.intro (by rfl) ?_); (conv => whnf); repeat (first | (refine sI (by rfl) ?_; conv => whnf) | (refine sD (by rfl) (by rfl) ?_; conv => whnf) | (generalize hE : keepE _ _ = e0; revert hE; apply kI; (repeat (first | exact kN _ | (apply kC; with_unfolding_all rfl; rfl))); rintro rfl; conv => whnf))
  exact ⟨_, rfl, Ret.sta trivial⟩
end
end Go.Dn

namespace Go.Dn
open Go Go.Proofs.C1
set_option maxRecDepth 100000
attribute [local irreducible] afterS keepE

def PN.lead : PN → List UInt8 | .mk _ a _ _ _ _ _ _ _ _ _ => a
def PN.head : PN → List UInt8 | .mk _ _ _ _ _ h _ _ _ _ _ => h
def PN.seps : PN → List (List UInt8) | .mk _ _ _ _ _ _ _ seps _ _ _ => seps

def sumLen : List (List UInt8) → Nat
  | [] => 0
  | s :: r => s.length + sumLen r
mutual
/-- all bytes -/
def PN.tb : PN → Nat
  | .mk _ a _ c _ h kids seps t e _ => a.length + c.length + h.length + t.length + e.length + PN.tbs kids + sumLen seps
def PN.tbs : List PN → Nat
  | [] => 0
  | n :: r => n.tb + PN.tbs r
end

theorem sumLen_take (l : List (List UInt8)) (j : Nat) : sumLen (l.take j) ≤ sumLen l := by
  induction l generalizing j with
  | nil => simp [sumLen]
  | cons a r ih =>
    cases j with
    | zero => simp [sumLen]
    | succ j => simp only [List.take_succ_cons, sumLen]; have := ih j; omega

theorem sumLen_step (l : List (List UInt8)) (j : Nat) : sumLen (l.take (j + 1)) = sumLen (l.take j) + ((l[j]?).getD []).length := by
  induction l generalizing j with
  | nil => simp [sumLen]
  | cons a r ih =>
    cases j with
    | zero => simp [sumLen]
    | succ j => simp only [List.take_succ_cons, sumLen, List.getElem?_cons_succ]; rw [ih j]; omega

theorem sumLen_drop (l : List (List UInt8)) (j : Nat) : sumLen (l.drop j) = ((l[j]?).getD []).length + sumLen (l.drop (j + 1)) := by
  induction l generalizing j with
  | nil => simp [sumLen]
  | cons a r ih =>
    cases j with
    | zero => simp [sumLen]
    | succ j => simpa using ih j

theorem tbs_take : ∀ {l : List PN} {j : Nat} (h : j < l.length), PN.tbs (l.take j) + l[j].tb ≤ PN.tbs l
  | n :: r, 0, _ => by simp [PN.tbs]
  | n :: r, j + 1, h => by
    simp only [List.take_succ_cons, PN.tbs, List.getElem_cons_succ]
    have := tbs_take (l := r) (j := j) (by simpa using h)
    omega
theorem tbs_step : ∀ {l : List PN} {j : Nat} (h : j < l.length), PN.tbs (l.take (j + 1)) = PN.tbs (l.take j) + l[j].tb
  | n :: r, 0, _ => by simp [PN.tbs]
  | n :: r, j + 1, h => by
    simp only [List.take_succ_cons, PN.tbs, List.getElem_cons_succ]
    have := tbs_step (l := r) (j := j) (by simpa using h)
    omega

mutual
theorem flatB_le : ∀ n : PN, (flatB n).length ≤ n.tb
  | .mk k a b c leaf h kids seps t e f => by
    have := flatKs_le kids seps 0
    simp only [flatB, PN.tb, List.length_append]
    simp only [Nat.zero_sub, List.drop_zero] at this
    split
    · omega
    · simp only [List.length_append]; omega
theorem flatKs_le : ∀ (kids : List PN) (seps : List (List UInt8)) (i : Nat), (flatKs kids seps i).length ≤ PN.tbs kids + sumLen (seps.drop (i - 1))
  | [], seps, i => by simp [flatKs]
  | n :: r, seps, i => by
    have h1 := flatB_le n
    have h2 := flatKs_le r seps (i + 1)
    simp only [flatKs, PN.tbs, List.length_append]
    by_cases h0 : 0 < i
    · have h3 := sumLen_drop seps (i - 1)
      rw [show i - 1 + 1 = i by omega] at h3
      rw [show i + 1 - 1 = i by omega] at h2
      simp only [sepAt, if_pos h0]
      omega
    · have : i = 0 := by omega
      subst this
      simp only [sepAt, Nat.lt_irrefl, if_false, List.length_nil]
      simp only [Nat.zero_add, Nat.sub_self, List.drop_zero] at h2
      simp only [Nat.zero_add, Nat.zero_sub, List.drop_zero]
      omega
end

/-- the bytes ahead of a Kid, behind the head -/
def offs (kids : List PN) (seps : List (List UInt8)) : Nat → Nat
  | 0 => 0
  | j + 1 => offs kids seps j + (match kids[j]? with | some n => (flatB n).length | none => 0) + ((seps[j]?).getD []).length

theorem offs_le (kids : List PN) (seps : List (List UInt8)) : ∀ {j : Nat}, j ≤ kids.length → offs kids seps j ≤ PN.tbs (kids.take j) + sumLen (seps.take j)
  | 0, _ => by simp [offs]
  | j + 1, h => by
    have hj : j < kids.length := by omega
    have h1 := offs_le kids seps (j := j) (by omega)
    have h2 := flatB_le kids[j]
    simp only [offs, List.getElem?_eq_getElem hj]
    rw [tbs_step hj, sumLen_step]
    omega

def findN : PN → List PS → Int → Option (PN × Int)
  | n, [], at_ => some (n, at_)
  | n, s :: r, at_ => if kidI n s < 0 then none else match n.kids[(kidI n s).toNat]? with
    | none => none
    | some k => findN k r (at_ + n.lead.length + n.head.length + offs n.kids n.seps (kidI n s).toNat)

def PN.zero : PN := .mk 0 [] [] [] (.mk 0 [] [] []) [] [] [] [] [] 0
def encFind : Option (PN × Int) → AV
  | some (n, a) => .tup [encN n, .int .i64 a, .bool true]
  | none => .tup [encN PN.zero, .int .i64 0, .bool false]

theorem rdo_nil {S : St} {es : Nat} {nl : Bool} : Rdo S (.sl es stat []) (.sl es ⟨none, 0, some 0, nl⟩ []) := by
  simp only [Rdo]
  exact ⟨trivial, _, _, true, [], rfl, rfl, by simp only [Rdos]⟩
theorem rdo_zN {S : St} : Rdo S (encN PN.zero) (.agg zN) := by
  simp only [PN.zero, encN]
  rw [Rdo]
  refine ⟨_, rfl, ?_⟩
  simp only [Rdos]
  exact ⟨_, _, rfl, by simp only [Rdo], _, _, rfl, by simp only [Rdo], _, _, rfl, by simp only [Rdo], _, _, rfl, by simp only [Rdo], _, _, rfl, by simp only [Rdo, PT.k], _, _, rfl, by simp only [Rdo, PT.s],
    _, _, rfl, rdo_nil, _, _, rfl, rdo_nil, _, _, rfl, by simp only [Rdo], _, _, rfl, rdo_nil, _, _, rfl, rdo_nil, _, _, rfl, by simp only [Rdo], _, _, rfl, by simp only [Rdo], _, _, rfl, by simp only [Rdo], rfl⟩

theorem ret_tup3 {S : St} {u x : AV} {b c : AV} (h : Rdo S u x) (hb : Sta b) (hc : Sta c) : Ret (.tup [u, b, c]) (.ret (.tup [x, b, c])) S := by
  refine ⟨_, rfl, ?_⟩
  rw [Rdo]
  refine ⟨_, rfl, ?_⟩
  simp only [Rdos]
  exact ⟨_, _, rfl, h, _, _, rfl, hb.rdo, _, _, rfl, hc.rdo, rfl⟩

theorem sx_slHi {gt : GT} {d : Option Nat} {es : Nat} {x hi : DOpd} {env : Env} {S : St} {xs : List AV} {h : Nat} (hx : opd env x = some (.sl es stat xs)) (hh : (opd env hi).bind nat? = some h) (hl : h ≤ xs.length) :
    stepO gt d env S (.slA es x none (some hi) none) = .done (putV d (.sl es stat (xs.take h)) env) S := by
  have hb : bnds env xs.length none (some hi) = some (0, h) := by
    simp only [bnds, hh, ble_true (Nat.zero_le h), ble_true hl, Bool.and_self, cond_true]
  simp only [stepO, hx, Nat.beq_refl, cond_true, hb, List.drop_zero, Nat.sub_zero, Nat.add_zero]
  try rfl

section
variable {gt : GT} {C : CallT}

abbrev E_find (cur : PN) (at_ : Int) (path : List PS) (i : Int) : Env := [(2, .box (encN cur).cells), (4, .box zN), (7, .val (.int .i64 at_)), (13, .val (.sl 2 stat (encSs path))), (14, .val (.int .i64 (encSs path).length)), (15, .val (.int .i64 i))]
abbrev E_find2 (cur : PN) (at_ : Int) (path : List PS) (i ki : Int) (ks : List AV) (j : Int) : Env := [(2, .box (encN cur).cells), (4, .box zN), (7, .val (.int .i64 at_)), (10, .val (.int .i64 ki)), (13, .val (.sl 2 stat (encSs path))), (14, .val (.int .i64 (encSs path).length)), (15, .val (.int .i64 i)),
  (37, .val (.sl 14 stat ks)), (38, .val (.int .i64 ks.length)), (39, .val (.int .i64 j))]

theorem rdS (s : PS) : (cut (encS s).cells 0 2).bind (mkv true) = some (encS s) := by cases s; rfl

set_option maxHeartbeats 2000000 in
theorem find_wp (hm : MonoC C) (hkid : ∀ n s, n.ok → PF C 42 [encN n, encS s] (.int .i64 (kidI n s))) (hlen : ∀ n : PN, n.ok → (flatB n).length ≤ 4611686018427387904 → PF C 12 [encN n] (.int .i64 (flatB n).length))
    (hcopy : ∀ n : PN, n.ok → PF C 24 [encN n] (encN n)) {n : PN} {path : List PS} (hb : n.ok) (hL : n.tb ≤ 4611686018427387904) (hp : path.length ≤ 4611686018427387904) :
    wpF gt C F15 [encN n, .sl 2 stat (encSs path)] St.init (Ret (encFind (findN n path 0))) := by
  have hn := encN_agg n
  have hlp := encSs_len path
  refine ⟨rfl, ?_⟩
  (try refine And.intro (by rfl) ?_); (conv => whnf); repeat (first | (refine sI (by rfl) ?_; conv => whnf) | (refine sD (by rfl) (by rfl) ?_; conv => whnf) | (generalize hE : keepE _ _ = e0; revert hE; apply kI; (repeat (first | exact kN _ | (apply kC; with_unfolding_all rfl; rfl))); rintro rfl; conv => whnf))
  refine loop_rule hm (α := Nat × PN × Int) (fun a env S' => a.1 ≤ path.length ∧ env = E_find a.2.1 a.2.2 path a.1 ∧ S' = St.init ∧ a.2.1.ok ∧ 0 ≤ a.2.2 ∧ a.2.2 + a.2.1.tb ≤ 4611686018427387904 ∧ findN n path 0 = findN a.2.1 (path.drop a.1) a.2.2) (fun a => path.length - a.1) ?_ (a := (0, n, 0)) ⟨Nat.zero_le _, ?_, rfl, hb, by simp, by simp only; omega, rfl⟩
  case refine_2 => obtain ⟨w0, w1, w2, w3, w4, w5, w6, w7, w8, w9, w10, w11, w12, w13, he⟩ := hn; simp only [E_find, he]; try rfl
  clear hn hb hL
  rintro ⟨i, cur, at_⟩ env S' ⟨hi, rfl, rfl, hb, h0, hL, hf⟩
  simp only at hi hb h0 hL hf
  obtain ⟨k, a, b, c, leaf, h, kids, seps, t, e, f⟩ := cur
  (try refine And.intro (by rfl) ?_); (conv => whnf); repeat (first | (refine sI (by rfl) ?_; conv => whnf) | (refine sD (by rfl) (by rfl) ?_; conv => whnf) | (generalize hE : keepE _ _ = e0; revert hE; apply kI; (repeat (first | exact kN _ | (apply kC; with_unfolding_all rfl; rfl))); rintro rfl; conv => whnf))
  by_cases hc : (i : Int) < (encSs path).length
  · rw [decide_eq_true hc]
    (try refine And.intro (by rfl) ?_); (conv => whnf); repeat (first | (refine sI (by rfl) ?_; conv => whnf) | (refine sD (by rfl) (by rfl) ?_; conv => whnf) | (generalize hE : keepE _ _ = e0; revert hE; apply kI; (repeat (first | exact kN _ | (apply kC; with_unfolding_all rfl; rfl))); rintro rfl; conv => whnf))
    have hik : i < path.length := by omega
    rw [List.drop_eq_getElem_cons hik] at hf
    have hkid := hkid (.mk k a b c leaf h kids seps t e f) path[i] hb
    have hge := encSs_get hik
    have hlt := kidI_lt (.mk k a b c leaf h kids seps t e f) path[i]
    generalize path[i] = ps at hf hkid hge hlt
    obtain ⟨key, num⟩ := ps
    simp only [findN, PN.kids, PN.lead, PN.head, PN.seps] at hf hlt
    generalize kidI (.mk k a b c leaf h kids seps t e f) ⟨key, num⟩ = ki at hkid hf hlt
    refine step_ruleO (sx_ia (k := i) rfl rfl (by omega)) ?_
    (try refine And.intro (by rfl) ?_); (conv => whnf); repeat (first | (refine sI (by rfl) ?_; conv => whnf) | (refine sD (by rfl) (by rfl) ?_; conv => whnf) | (generalize hE : keepE _ _ = e0; revert hE; apply kI; (repeat (first | exact kN _ | (apply kC; with_unfolding_all rfl; rfl))); rintro rfl; conv => whnf))
    refine step_ruleO (sx_ldEl (agg := true) rfl rfl hge (rdS _)) ?_
    (try refine And.intro (by rfl) ?_); (conv => whnf); repeat (first | (refine sI (by rfl) ?_; conv => whnf) | (refine sD (by rfl) (by rfl) ?_; conv => whnf) | (generalize hE : keepE _ _ = e0; revert hE; apply kI; (repeat (first | exact kN _ | (apply kC; with_unfolding_all rfl; rfl))); rintro rfl; conv => whnf))
    refine call_pf hm (by rfl) hkid ?_
    (try refine And.intro (by rfl) ?_); (conv => whnf); repeat (first | (refine sI (by rfl) ?_; conv => whnf) | (refine sD (by rfl) (by rfl) ?_; conv => whnf) | (generalize hE : keepE _ _ = e0; revert hE; apply kI; (repeat (first | exact kN _ | (apply kC; with_unfolding_all rfl; rfl))); rintro rfl; conv => whnf))
    by_cases hneg : ki < 0
    · rw [decide_eq_true hneg]
      (try refine And.intro (by rfl) ?_); (conv => whnf); repeat (first | (refine sI (by rfl) ?_; conv => whnf) | (refine sD (by rfl) (by rfl) ?_; conv => whnf) | (generalize hE : keepE _ _ = e0; revert hE; apply kI; (repeat (first | exact kN _ | (apply kC; with_unfolding_all rfl; rfl))); rintro rfl; conv => whnf))
      rw [if_pos hneg] at hf
      rw [hf]
      exact ⟨_, rfl, ret_tup3 rdo_zN trivial trivial⟩
    rw [decide_eq_false hneg]
    rw [if_neg hneg] at hf
    obtain ⟨m, rfl⟩ : ∃ m : Nat, ki = m := ⟨ki.toNat, by omega⟩
    have hmk : m < kids.length := by omega
    simp only [Int.toNat_natCast, List.getElem?_eq_getElem hmk] at hf
    simp only [PN.ok] at hb
    obtain ⟨q1, q2, q3, q4⟩ := hb
    have hlk := encNs_len kids
    have hls := strs_length seps
    have hof := offs_le kids seps (j := m) (by omega)
    have htb := tbs_take hmk
    have hsl := sumLen_take seps m
    simp only [PN.tb] at hL
    (try refine And.intro (by rfl) ?_); (conv => whnf); repeat (first | (refine sI (by rfl) ?_; conv => whnf) | (refine sD (by rfl) (by rfl) ?_; conv => whnf) | (generalize hE : keepE _ _ = e0; revert hE; apply kI; (repeat (first | exact kN _ | (apply kC; with_unfolding_all rfl; rfl))); rintro rfl; conv => whnf))
    refine step_ruleO (sx_slHi (h := m) rfl rfl (by omega)) ?_
    (try refine And.intro (by rfl) ?_); (conv => whnf); repeat (first | (refine sI (by rfl) ?_; conv => whnf) | (refine sD (by rfl) (by rfl) ?_; conv => whnf) | (generalize hE : keepE _ _ = e0; revert hE; apply kI; (repeat (first | exact kN _ | (apply kC; with_unfolding_all rfl; rfl))); rintro rfl; conv => whnf))
    have hks : ((encNs kids).take m).length = m := by rw [List.length_take]; omega
    refine loop_rule hm (α := Nat) (fun j env S' => j ≤ m ∧ env = E_find2 (.mk k a b c leaf h kids seps t e f) (at_ + a.length + h.length + offs kids seps j) path i m ((encNs kids).take m) j ∧ S' = St.init) (fun j => m - j) ?_ (a := 0) ⟨Nat.zero_le _, ?_, rfl⟩
    case refine_2 =>
      rw [show at_ + a.length + h.length + (offs kids seps 0 : Nat) = at_ + ((a.length : Int) + h.length) by simp [offs]; omega, wr64 (n := (a.length : Int) + h.length) (by omega) (by omega), wr64 (n := at_ + ((a.length : Int) + h.length)) (by omega) (by omega)]
      try rfl
    rintro j env S' ⟨hj, rfl, rfl⟩
    (try refine And.intro (by rfl) ?_); (conv => whnf); repeat (first | (refine sI (by rfl) ?_; conv => whnf) | (refine sD (by rfl) (by rfl) ?_; conv => whnf) | (generalize hE : keepE _ _ = e0; revert hE; apply kI; (repeat (first | exact kN _ | (apply kC; with_unfolding_all rfl; rfl))); rintro rfl; conv => whnf))
    have hofj := offs_le kids seps (j := j) (by omega)
    by_cases hc2 : (j : Int) < ((encNs kids).take m).length
    · rw [decide_eq_true hc2]
      (try refine And.intro (by rfl) ?_); (conv => whnf); repeat (first | (refine sI (by rfl) ?_; conv => whnf) | (refine sD (by rfl) (by rfl) ?_; conv => whnf) | (generalize hE : keepE _ _ = e0; revert hE; apply kI; (repeat (first | exact kN _ | (apply kC; with_unfolding_all rfl; rfl))); rintro rfl; conv => whnf))
      have hjm : j < m := by omega
      have hjk : j < kids.length := by omega
      have hgj : ((encNs kids).take m)[j]? = some (encN kids[j]) := by rw [List.getElem?_take_of_lt hjm]; exact encNs_get hjk
      have hrd := rdN kids[j]
      have hofj1 := offs_le kids seps (j := j + 1) (by omega)
      have htb1 := tbs_step hjk
      have hfl := flatB_le kids[j]
      have htj := tbs_take hjk
      have hsj := sumLen_take seps (j + 1)
      have hln := hlen kids[j] (PN.oks_get hjk q4) (by omega)
      have hstep : offs kids seps (j + 1) = offs kids seps j + (flatB kids[j]).length + ((seps[j]?).getD []).length := by simp only [offs, List.getElem?_eq_getElem hjk]
      have hub : offs kids seps (j + 1) ≤ PN.tbs kids + sumLen seps := by
        rcases Nat.lt_or_ge (j + 1) kids.length with hh | hh
        · have := tbs_take hh; omega
        · rw [List.take_of_length_le hh] at hofj1; omega
      obtain ⟨w0, w1, w2, w3, w4, w5, w6, w7, w8, w9, w10, w11, w12, w13, he⟩ := encN_agg kids[j]
      rw [he] at hgj hrd hln
      refine step_ruleO (sx_ia (k := j) rfl rfl (by omega)) ?_
      (try refine And.intro (by rfl) ?_); (conv => whnf); repeat (first | (refine sI (by rfl) ?_; conv => whnf) | (refine sD (by rfl) (by rfl) ?_; conv => whnf) | (generalize hE : keepE _ _ = e0; revert hE; apply kI; (repeat (first | exact kN _ | (apply kC; with_unfolding_all rfl; rfl))); rintro rfl; conv => whnf))
      refine step_ruleO (sx_ldEl (agg := true) rfl rfl hgj hrd) ?_
      (try refine And.intro (by rfl) ?_); (conv => whnf); repeat (first | (refine sI (by rfl) ?_; conv => whnf) | (refine sD (by rfl) (by rfl) ?_; conv => whnf) | (generalize hE : keepE _ _ = e0; revert hE; apply kI; (repeat (first | exact kN _ | (apply kC; with_unfolding_all rfl; rfl))); rintro rfl; conv => whnf))
      refine call_pf hm (by rfl) hln ?_
      (try refine And.intro (by rfl) ?_); (conv => whnf); repeat (first | (refine sI (by rfl) ?_; conv => whnf) | (refine sD (by rfl) (by rfl) ?_; conv => whnf) | (generalize hE : keepE _ _ = e0; revert hE; apply kI; (repeat (first | exact kN _ | (apply kC; with_unfolding_all rfl; rfl))); rintro rfl; conv => whnf))
      by_cases hc3 : (j : Int) < (strs seps).length
      · rw [decide_eq_true hc3]
        (try refine And.intro (by rfl) ?_); (conv => whnf); repeat (first | (refine sI (by rfl) ?_; conv => whnf) | (refine sD (by rfl) (by rfl) ?_; conv => whnf) | (generalize hE : keepE _ _ = e0; revert hE; apply kI; (repeat (first | exact kN _ | (apply kC; with_unfolding_all rfl; rfl))); rintro rfl; conv => whnf))
        have hjs : j < seps.length := by omega
        rw [List.getElem?_eq_getElem hjs] at hstep
        simp only [Option.getD_some] at hstep
        refine step_ruleO (sx_ia (k := j) rfl rfl (by omega)) ?_
        (try refine And.intro (by rfl) ?_); (conv => whnf); repeat (first | (refine sI (by rfl) ?_; conv => whnf) | (refine sD (by rfl) (by rfl) ?_; conv => whnf) | (generalize hE : keepE _ _ = e0; revert hE; apply kI; (repeat (first | exact kN _ | (apply kC; with_unfolding_all rfl; rfl))); rintro rfl; conv => whnf))
        refine step_ruleO (sx_ldEl (agg := false) rfl rfl (strs_at hjs) rfl) ?_
        (try refine And.intro (by rfl) ?_); (conv => whnf); repeat (first | (refine sI (by rfl) ?_; conv => whnf) | (refine sD (by rfl) (by rfl) ?_; conv => whnf) | (generalize hE : keepE _ _ = e0; revert hE; apply kI; (repeat (first | exact kN _ | (apply kC; with_unfolding_all rfl; rfl))); rintro rfl; conv => whnf))
        refine ⟨j + 1, ⟨by omega, ?_, rfl⟩, by omega⟩
        rw [wrNat (by omega), wr64 (n := at_ + a.length + h.length + (offs kids seps j : Nat) + ((flatB kids[j]).length : Int)) (by omega) (by omega), wr64 (n := at_ + a.length + h.length + (offs kids seps j : Nat) + ((flatB kids[j]).length : Int) + (seps[j].length : Int)) (by omega) (by omega),
          show at_ + a.length + h.length + (offs kids seps j : Nat) + ((flatB kids[j]).length : Int) + (seps[j].length : Int) = at_ + a.length + h.length + (offs kids seps (j + 1) : Nat) by rw [hstep]; push_cast; omega]
        try rfl
      · rw [decide_eq_false hc3]
        (try refine And.intro (by rfl) ?_); (conv => whnf); repeat (first | (refine sI (by rfl) ?_; conv => whnf) | (refine sD (by rfl) (by rfl) ?_; conv => whnf) | (generalize hE : keepE _ _ = e0; revert hE; apply kI; (repeat (first | exact kN _ | (apply kC; with_unfolding_all rfl; rfl))); rintro rfl; conv => whnf))
        rw [List.getElem?_eq_none (by omega)] at hstep
        simp only [Option.getD_none, List.length_nil, Nat.add_zero] at hstep
        refine ⟨j + 1, ⟨by omega, ?_, rfl⟩, by omega⟩
        rw [wrNat (by omega), wr64 (n := at_ + a.length + h.length + (offs kids seps j : Nat) + ((flatB kids[j]).length : Int)) (by omega) (by omega),
          show at_ + a.length + h.length + (offs kids seps j : Nat) + ((flatB kids[j]).length : Int) = at_ + a.length + h.length + (offs kids seps (j + 1) : Nat) by rw [hstep]; push_cast; omega]
        try rfl
    · rw [decide_eq_false hc2]
      (try refine And.intro (by rfl) ?_); (conv => whnf); repeat (first | (refine sI (by rfl) ?_; conv => whnf) | (refine sD (by rfl) (by rfl) ?_; conv => whnf) | (generalize hE : keepE _ _ = e0; revert hE; apply kI; (repeat (first | exact kN _ | (apply kC; with_unfolding_all rfl; rfl))); rintro rfl; conv => whnf))
      obtain rfl : j = m := by omega
      have hgj := encNs_get hmk
      have hrd := rdN kids[j]
      have hrd2 := encN_agg kids[j]
      have hEq : encN kids[j] = encN kids[j] := rfl
      obtain ⟨w0, w1, w2, w3, w4, w5, w6, w7, w8, w9, w10, w11, w12, w13, he⟩ := encN_agg kids[j]
      rw [he] at hgj hrd
      refine step_ruleO (sx_ia (k := j) rfl rfl (by omega)) ?_
      (try refine And.intro (by rfl) ?_); (conv => whnf); repeat (first | (refine sI (by rfl) ?_; conv => whnf) | (refine sD (by rfl) (by rfl) ?_; conv => whnf) | (generalize hE : keepE _ _ = e0; revert hE; apply kI; (repeat (first | exact kN _ | (apply kC; with_unfolding_all rfl; rfl))); rintro rfl; conv => whnf))
      refine step_ruleO (sx_ldEl (agg := true) rfl rfl hgj hrd) ?_
      (try refine And.intro (by rfl) ?_); (conv => whnf); repeat (first | (refine sI (by rfl) ?_; conv => whnf) | (refine sD (by rfl) (by rfl) ?_; conv => whnf) | (generalize hE : keepE _ _ = e0; revert hE; apply kI; (repeat (first | exact kN _ | (apply kC; with_unfolding_all rfl; rfl))); rintro rfl; conv => whnf))
      refine ⟨(i + 1, kids[j], at_ + a.length + h.length + (offs kids seps j : Nat)), ⟨by simp only; omega, ?_, rfl, PN.oks_get hmk q4, by simp only; omega, by simp only; omega, hf⟩, by simp only; omega⟩
      rw [wrNat (by omega)]
      simp only [E_find, he]
      try rfl
  · rw [decide_eq_false hc]
    (try refine And.intro (by rfl) ?_); (conv => whnf); repeat (first | (refine sI (by rfl) ?_; conv => whnf) | (refine sD (by rfl) (by rfl) ?_; conv => whnf) | (generalize hE : keepE _ _ = e0; revert hE; apply kI; (repeat (first | exact kN _ | (apply kC; with_unfolding_all rfl; rfl))); rintro rfl; conv => whnf))
    rw [List.drop_eq_nil_of_le (by omega)] at hf
    simp only [findN] at hf
    rw [hf]
    refine call_pf hm (by rfl) (hcopy _ hb) ?_
    (try refine And.intro (by rfl) ?_); (conv => whnf); repeat (first | (refine sI (by rfl) ?_; conv => whnf) | (refine sD (by rfl) (by rfl) ?_; conv => whnf) | (generalize hE : keepE _ _ = e0; revert hE; apply kI; (repeat (first | exact kN _ | (apply kC; with_unfolding_all rfl; rfl))); rintro rfl; conv => whnf))
    exact ⟨_, rfl, ret_tup3 (sta_N _).rdo trivial trivial⟩

abbrev E_findR (cur : PN) (at_ : Int) (path : List PS) (i : Int) : Env := [(1, .val (.sl 2 stat (encSs path))), (2, .box (encN cur).cells), (4, .box zN), (7, .val (.int .i64 at_)), (8, .val (.int .i64 i))]
abbrev E_findR2 (cur : PN) (at_ : Int) (path : List PS) (i ki j : Int) : Env := [(1, .val (.sl 2 stat (encSs path))), (2, .box (encN cur).cells), (4, .box zN), (7, .val (.int .i64 at_)), (8, .val (.int .i64 i)), (9, .val (.int .i64 ki)), (10, .val (.int .i64 j))]

set_option maxHeartbeats 2000000 in
theorem findR_wp (hm : MonoC C) (hkid : ∀ n s, n.ok → PF C 50 [encN n, encS s] (.int .i64 (kidI n s))) (hflat : ∀ n : PN, n.ok → (flatB n).length ≤ 140737488355328 → PF C 19 [encN n] (.str (flatB n)))
    {n : PN} {path : List PS} (hb : n.ok) (hL : n.tb ≤ 140737488355328) (hp : path.length ≤ 4611686018427387904) :
    wpF gt C F26 [encN n, .sl 2 stat (encSs path)] St.init (Ret (encFind (findN n path 0))) := by
  have hn := encN_agg n
  have hlp := encSs_len path
  refine ⟨rfl, ?_⟩
  (try refine And.intro (by rfl) ?_); (conv => whnf); repeat (first | (refine sI (by rfl) ?_; conv => whnf) | (refine sD (by rfl) (by rfl) ?_; conv => whnf) | (generalize hE : keepE _ _ = e0; revert hE; apply kI; (repeat (first | exact kN _ | (apply kC; with_unfolding_all rfl; rfl))); rintro rfl; conv => whnf))
  refine loop_rule hm (α := Nat × PN × Int) (fun a env S' => a.1 ≤ path.length ∧ env = E_findR a.2.1 a.2.2 path a.1 ∧ S' = St.init ∧ a.2.1.ok ∧ 0 ≤ a.2.2 ∧ a.2.2 + a.2.1.tb ≤ 140737488355328 ∧ findN n path 0 = findN a.2.1 (path.drop a.1) a.2.2) (fun a => path.length - a.1) ?_ (a := (0, n, 0)) ⟨Nat.zero_le _, ?_, rfl, hb, by simp, by simp only; omega, rfl⟩
  case refine_2 => obtain ⟨w0, w1, w2, w3, w4, w5, w6, w7, w8, w9, w10, w11, w12, w13, he⟩ := hn; simp only [E_findR, he]; try rfl
  clear hn hb hL
  rintro ⟨i, cur, at_⟩ env S' ⟨hi, rfl, rfl, hb, h0, hL, hf⟩
  simp only at hi hb h0 hL hf
  obtain ⟨k, a, b, c, leaf, h, kids, seps, t, e, f⟩ := cur
  (try refine And.intro (by rfl) ?_); (conv => whnf); repeat (first | (refine sI (by rfl) ?_; conv => whnf) | (refine sD (by rfl) (by rfl) ?_; conv => whnf) | (generalize hE : keepE _ _ = e0; revert hE; apply kI; (repeat (first | exact kN _ | (apply kC; with_unfolding_all rfl; rfl))); rintro rfl; conv => whnf))
  by_cases hc : (i : Int) < (encSs path).length
  · rw [decide_eq_true hc]
    (try refine And.intro (by rfl) ?_); (conv => whnf); repeat (first | (refine sI (by rfl) ?_; conv => whnf) | (refine sD (by rfl) (by rfl) ?_; conv => whnf) | (generalize hE : keepE _ _ = e0; revert hE; apply kI; (repeat (first | exact kN _ | (apply kC; with_unfolding_all rfl; rfl))); rintro rfl; conv => whnf))
    have hik : i < path.length := by omega
    rw [List.drop_eq_getElem_cons hik] at hf
    have hkid := hkid (.mk k a b c leaf h kids seps t e f) path[i] hb
    have hge := encSs_get hik
    have hlt := kidI_lt (.mk k a b c leaf h kids seps t e f) path[i]
    generalize path[i] = ps at hf hkid hge hlt
    obtain ⟨key, num⟩ := ps
    simp only [findN, PN.kids, PN.lead, PN.head, PN.seps] at hf hlt
    generalize kidI (.mk k a b c leaf h kids seps t e f) ⟨key, num⟩ = ki at hkid hf hlt
    refine step_ruleDO rfl rfl (sx_ia (k := i) rfl rfl (by omega)) ?_
    (try refine And.intro (by rfl) ?_); (conv => whnf); repeat (first | (refine sI (by rfl) ?_; conv => whnf) | (refine sD (by rfl) (by rfl) ?_; conv => whnf) | (generalize hE : keepE _ _ = e0; revert hE; apply kI; (repeat (first | exact kN _ | (apply kC; with_unfolding_all rfl; rfl))); rintro rfl; conv => whnf))
    refine step_ruleDO rfl rfl (sx_ldEl (agg := true) rfl rfl hge (rdS _)) ?_
    (try refine And.intro (by rfl) ?_); (conv => whnf); repeat (first | (refine sI (by rfl) ?_; conv => whnf) | (refine sD (by rfl) (by rfl) ?_; conv => whnf) | (generalize hE : keepE _ _ = e0; revert hE; apply kI; (repeat (first | exact kN _ | (apply kC; with_unfolding_all rfl; rfl))); rintro rfl; conv => whnf))
    refine call_pfD hm (by rfl) hkid ?_
    (try refine And.intro (by rfl) ?_); (conv => whnf); repeat (first | (refine sI (by rfl) ?_; conv => whnf) | (refine sD (by rfl) (by rfl) ?_; conv => whnf) | (generalize hE : keepE _ _ = e0; revert hE; apply kI; (repeat (first | exact kN _ | (apply kC; with_unfolding_all rfl; rfl))); rintro rfl; conv => whnf))
    by_cases hneg : ki < 0
    · rw [decide_eq_true hneg]
      (try refine And.intro (by rfl) ?_); (conv => whnf); repeat (first | (refine sI (by rfl) ?_; conv => whnf) | (refine sD (by rfl) (by rfl) ?_; conv => whnf) | (generalize hE : keepE _ _ = e0; revert hE; apply kI; (repeat (first | exact kN _ | (apply kC; with_unfolding_all rfl; rfl))); rintro rfl; conv => whnf))
      rw [if_pos hneg] at hf
      rw [hf]
      exact ⟨_, rfl, ret_tup3 rdo_zN trivial trivial⟩
    rw [decide_eq_false hneg]
    rw [if_neg hneg] at hf
    obtain ⟨m, rfl⟩ : ∃ m : Nat, ki = m := ⟨ki.toNat, by omega⟩
    have hmk : m < kids.length := by omega
    simp only [Int.toNat_natCast, List.getElem?_eq_getElem hmk] at hf
    simp only [PN.ok] at hb
    obtain ⟨q1, q2, q3, q4⟩ := hb
    have hlk := encNs_len kids
    have hls := strs_length seps
    have hof := offs_le kids seps (j := m) (by omega)
    have htb := tbs_take hmk
    have hsl := sumLen_take seps m
    simp only [PN.tb] at hL
    (try refine And.intro (by rfl) ?_); (conv => whnf); repeat (first | (refine sI (by rfl) ?_; conv => whnf) | (refine sD (by rfl) (by rfl) ?_; conv => whnf) | (generalize hE : keepE _ _ = e0; revert hE; apply kI; (repeat (first | exact kN _ | (apply kC; with_unfolding_all rfl; rfl))); rintro rfl; conv => whnf))
    refine loop_rule hm (α := Nat) (fun j env S' => j ≤ m ∧ env = E_findR2 (.mk k a b c leaf h kids seps t e f) (at_ + a.length + h.length + offs kids seps j) path i m j ∧ S' = St.init) (fun j => m - j) ?_ (a := 0) ⟨Nat.zero_le _, ?_, rfl⟩
    case refine_2 =>
      rw [show at_ + a.length + h.length + (offs kids seps 0 : Nat) = at_ + (a.length : Int) + h.length by simp [offs], wr64 (n := at_ + (a.length : Int)) (by omega) (by omega), wr64 (n := at_ + (a.length : Int) + h.length) (by omega) (by omega)]
      try rfl
    rintro j env S' ⟨hj, rfl, rfl⟩
    (try refine And.intro (by rfl) ?_); (conv => whnf); repeat (first | (refine sI (by rfl) ?_; conv => whnf) | (refine sD (by rfl) (by rfl) ?_; conv => whnf) | (generalize hE : keepE _ _ = e0; revert hE; apply kI; (repeat (first | exact kN _ | (apply kC; with_unfolding_all rfl; rfl))); rintro rfl; conv => whnf))
    have hofj := offs_le kids seps (j := j) (by omega)
    by_cases hc2 : (j : Int) < (m : Int)
    · rw [decide_eq_true hc2]
      (try refine And.intro (by rfl) ?_); (conv => whnf); repeat (first | (refine sI (by rfl) ?_; conv => whnf) | (refine sD (by rfl) (by rfl) ?_; conv => whnf) | (generalize hE : keepE _ _ = e0; revert hE; apply kI; (repeat (first | exact kN _ | (apply kC; with_unfolding_all rfl; rfl))); rintro rfl; conv => whnf))
      have hjm : j < m := by omega
      have hjk : j < kids.length := by omega
      have hgj := encNs_get hjk
      have hrd := rdN kids[j]
      have hofj1 := offs_le kids seps (j := j + 1) (by omega)
      have htb1 := tbs_step hjk
      have hfl := flatB_le kids[j]
      have htj := tbs_take hjk
      have hsj := sumLen_take seps (j + 1)
      have hln := hflat kids[j] (PN.oks_get hjk q4) (by omega)
      have hstep : offs kids seps (j + 1) = offs kids seps j + (flatB kids[j]).length + ((seps[j]?).getD []).length := by simp only [offs, List.getElem?_eq_getElem hjk]
      have hub : offs kids seps (j + 1) ≤ PN.tbs kids + sumLen seps := by
        rcases Nat.lt_or_ge (j + 1) kids.length with hh | hh
        · have := tbs_take hh; omega
        · rw [List.take_of_length_le hh] at hofj1; omega
      obtain ⟨w0, w1, w2, w3, w4, w5, w6, w7, w8, w9, w10, w11, w12, w13, he⟩ := encN_agg kids[j]
      rw [he] at hgj hrd hln
      refine step_ruleO (sx_ia (k := j) rfl rfl (by omega)) ?_
      (try refine And.intro (by rfl) ?_); (conv => whnf); repeat (first | (refine sI (by rfl) ?_; conv => whnf) | (refine sD (by rfl) (by rfl) ?_; conv => whnf) | (generalize hE : keepE _ _ = e0; revert hE; apply kI; (repeat (first | exact kN _ | (apply kC; with_unfolding_all rfl; rfl))); rintro rfl; conv => whnf))
      refine step_ruleO (sx_ldEl (agg := true) rfl rfl hgj hrd) ?_
      (try refine And.intro (by rfl) ?_); (conv => whnf); repeat (first | (refine sI (by rfl) ?_; conv => whnf) | (refine sD (by rfl) (by rfl) ?_; conv => whnf) | (generalize hE : keepE _ _ = e0; revert hE; apply kI; (repeat (first | exact kN _ | (apply kC; with_unfolding_all rfl; rfl))); rintro rfl; conv => whnf))
      refine call_pf hm (by rfl) hln ?_
      (try refine And.intro (by rfl) ?_); (conv => whnf); repeat (first | (refine sI (by rfl) ?_; conv => whnf) | (refine sD (by rfl) (by rfl) ?_; conv => whnf) | (generalize hE : keepE _ _ = e0; revert hE; apply kI; (repeat (first | exact kN _ | (apply kC; with_unfolding_all rfl; rfl))); rintro rfl; conv => whnf))
      by_cases hc3 : (j : Int) < (strs seps).length
      · rw [decide_eq_true hc3]
        (try refine And.intro (by rfl) ?_); (conv => whnf); repeat (first | (refine sI (by rfl) ?_; conv => whnf) | (refine sD (by rfl) (by rfl) ?_; conv => whnf) | (generalize hE : keepE _ _ = e0; revert hE; apply kI; (repeat (first | exact kN _ | (apply kC; with_unfolding_all rfl; rfl))); rintro rfl; conv => whnf))
        have hjs : j < seps.length := by omega
        rw [List.getElem?_eq_getElem hjs] at hstep
        simp only [Option.getD_some] at hstep
        refine step_ruleO (sx_ia (k := j) rfl rfl (by omega)) ?_
        (try refine And.intro (by rfl) ?_); (conv => whnf); repeat (first | (refine sI (by rfl) ?_; conv => whnf) | (refine sD (by rfl) (by rfl) ?_; conv => whnf) | (generalize hE : keepE _ _ = e0; revert hE; apply kI; (repeat (first | exact kN _ | (apply kC; with_unfolding_all rfl; rfl))); rintro rfl; conv => whnf))
        refine step_ruleO (sx_ldEl (agg := false) rfl rfl (strs_at hjs) rfl) ?_
        (try refine And.intro (by rfl) ?_); (conv => whnf); repeat (first | (refine sI (by rfl) ?_; conv => whnf) | (refine sD (by rfl) (by rfl) ?_; conv => whnf) | (generalize hE : keepE _ _ = e0; revert hE; apply kI; (repeat (first | exact kN _ | (apply kC; with_unfolding_all rfl; rfl))); rintro rfl; conv => whnf))
        refine ⟨j + 1, ⟨by omega, ?_, rfl⟩, by omega⟩
        rw [wrNat (by omega), wr64 (n := at_ + a.length + h.length + (offs kids seps j : Nat) + ((flatB kids[j]).length : Int)) (by omega) (by omega), wr64 (n := at_ + a.length + h.length + (offs kids seps j : Nat) + ((flatB kids[j]).length : Int) + (seps[j].length : Int)) (by omega) (by omega),
          show at_ + a.length + h.length + (offs kids seps j : Nat) + ((flatB kids[j]).length : Int) + (seps[j].length : Int) = at_ + a.length + h.length + (offs kids seps (j + 1) : Nat) by rw [hstep]; push_cast; omega]
        try rfl
      · rw [decide_eq_false hc3]
        (try refine And.intro (by rfl) ?_); (conv => whnf); repeat (first | (refine sI (by rfl) ?_; conv => whnf) | (refine sD (by rfl) (by rfl) ?_; conv => whnf) | (generalize hE : keepE _ _ = e0; revert hE; apply kI; (repeat (first | exact kN _ | (apply kC; with_unfolding_all rfl; rfl))); rintro rfl; conv => whnf))
        rw [List.getElem?_eq_none (by omega)] at hstep
        simp only [Option.getD_none, List.length_nil, Nat.add_zero] at hstep
        refine ⟨j + 1, ⟨by omega, ?_, rfl⟩, by omega⟩
        rw [wrNat (by omega), wr64 (n := at_ + a.length + h.length + (offs kids seps j : Nat) + ((flatB kids[j]).length : Int)) (by omega) (by omega),
          show at_ + a.length + h.length + (offs kids seps j : Nat) + ((flatB kids[j]).length : Int) = at_ + a.length + h.length + (offs kids seps (j + 1) : Nat) by rw [hstep]; push_cast; omega]
        try rfl
    · rw [decide_eq_false hc2]
      (try refine And.intro (by rfl) ?_); (conv => whnf); repeat (first | (refine sI (by rfl) ?_; conv => whnf) | (refine sD (by rfl) (by rfl) ?_; conv => whnf) | (generalize hE : keepE _ _ = e0; revert hE; apply kI; (repeat (first | exact kN _ | (apply kC; with_unfolding_all rfl; rfl))); rintro rfl; conv => whnf))
      obtain rfl : j = m := by omega
      have hgj := encNs_get hmk
      have hrd := rdN kids[j]
      obtain ⟨w0, w1, w2, w3, w4, w5, w6, w7, w8, w9, w10, w11, w12, w13, he⟩ := encN_agg kids[j]
      rw [he] at hgj hrd
      refine step_ruleO (sx_ia (k := j) rfl rfl (by omega)) ?_
      (try refine And.intro (by rfl) ?_); (conv => whnf); repeat (first | (refine sI (by rfl) ?_; conv => whnf) | (refine sD (by rfl) (by rfl) ?_; conv => whnf) | (generalize hE : keepE _ _ = e0; revert hE; apply kI; (repeat (first | exact kN _ | (apply kC; with_unfolding_all rfl; rfl))); rintro rfl; conv => whnf))
      refine step_ruleO (sx_ldEl (agg := true) rfl rfl hgj hrd) ?_
      (try refine And.intro (by rfl) ?_); (conv => whnf); repeat (first | (refine sI (by rfl) ?_; conv => whnf) | (refine sD (by rfl) (by rfl) ?_; conv => whnf) | (generalize hE : keepE _ _ = e0; revert hE; apply kI; (repeat (first | exact kN _ | (apply kC; with_unfolding_all rfl; rfl))); rintro rfl; conv => whnf))
      refine ⟨(i + 1, kids[j], at_ + a.length + h.length + (offs kids seps j : Nat)), ⟨by simp only; omega, ?_, rfl, PN.oks_get hmk q4, by simp only; omega, by simp only; omega, hf⟩, by simp only; omega⟩
      rw [wrNat (by omega)]
      simp only [E_findR, he]
      try rfl
  · rw [decide_eq_false hc]
    (try refine And.intro (by rfl) ?_); (conv => whnf); repeat (first | (refine sI (by rfl) ?_; conv => whnf) | (refine sD (by rfl) (by rfl) ?_; conv => whnf) | (generalize hE : keepE _ _ = e0; revert hE; apply kI; (repeat (first | exact kN _ | (apply kC; with_unfolding_all rfl; rfl))); rintro rfl; conv => whnf))
    rw [List.drop_eq_nil_of_le (by omega)] at hf
    simp only [findN] at hf
    rw [hf]
    exact ⟨_, rfl, ret_tup3 (sta_N _).rdo trivial trivial⟩
end
end Go.Dn

namespace Go.Dn
open Go Go.RowKit

/-- an element as it is read -/
def El (g : Bool) (es : Nat) (y : AV) : Prop := y.cells.length = es ∧ mkv g y.cells = some y

theorem cut_mid {pre m post : List AV} {n k : Nat} (hn : n = pre.length) (hk : k = m.length) : cut (pre ++ (m ++ post)) n k = some m := by
  subst hn; subst hk
  unfold cut
  rw [ble_true (by simp only [List.length_append]; omega)]
  simp

theorem cutAll_flat {g : Bool} {es : Nat} : ∀ {ys : List AV}, (∀ y ∈ ys, El g es y) → ∀ (pre post : List AV), cutAll g es (pre ++ (ys.flatMap AV.cells ++ post)) pre.length ys.length = some ys
  | [], _, _, _ => rfl
  | y :: r, h, pre, post => by
    obtain ⟨h1, h2⟩ := h y (by simp)
    have ih := cutAll_flat (ys := r) (fun z hz => h z (by simp [hz])) (pre ++ y.cells) post
    simp only [List.length_cons, cutAll, List.flatMap_cons, List.append_assoc]
    rw [cut_mid rfl h1.symm]
    simp only [Option.bind_some, h2]
    rw [List.length_append, h1, List.append_assoc] at ih
    rw [ih]

theorem flat_length {es : Nat} : ∀ {ys : List AV}, (∀ y ∈ ys, y.cells.length = es) → (ys.flatMap AV.cells).length = ys.length * es
  | [], _ => by simp
  | y :: r, h => by
    have := flat_length (ys := r) fun z hz => h z (by simp [hz])
    simp only [List.flatMap_cons, List.length_append, List.length_cons, this, h y (by simp), Nat.add_mul]; omega

theorem rd_mk {S : St} {t l b : Nat} {off : Nat} {cap : Option Nat} {nl : Bool} (h : RsOK S (.mk t l b)) : rd S ⟨some (t, l), off, cap, nl⟩ = .box b 0 := by
  simp only [rd, h.2.2]

theorem splice_mid {pre m post new m' : List AV} {n off : Nat} (hn : n = pre.length + off) (hl : off + new.length ≤ m.length) (hm : m' = splice m off new) : splice (pre ++ (m ++ post)) n new = pre ++ (m' ++ post) := by
  subst hn; subst hm
  unfold splice
  rw [List.take_append, List.drop_append]
  simp only [List.take_append, List.drop_append, List.append_assoc]
  rw [List.take_of_length_le (l := pre) (by omega), List.drop_of_length_le (l := pre) (by omega)]
  rw [show pre.length + off - pre.length = off by omega, show pre.length + off + new.length - pre.length = off + new.length by omega]
  rw [show off - m.length = 0 by omega, List.take_zero, show off + new.length - m.length = 0 by omega, List.drop_zero]
  simp

theorem split_at {ys : List AV} {k : Nat} (h : k < ys.length) : ys = ys.take k ++ ys[k] :: ys.drop (k + 1) := by
  rw [List.getElem_cons_drop, List.take_append_drop]
theorem set_split {ys : List AV} {k : Nat} {v : AV} (h : k < ys.length) : ys.set k v = ys.take k ++ v :: ys.drop (k + 1) := by
  rw [List.set_eq_take_append_cons_drop, if_pos h]

section
variable {gt : GT} {C : CallT} {S : St} {R : List Rs}

/-- a slice of an array, its elements -/
theorem arr_els (h : Hs S R) {i j : Nat} {b t l : Nat} {ty : TypeId} {ys post : List AV} {g : Bool} {es : Nat} (hi : R[i]? = some (.bx b ty (ys.flatMap AV.cells ++ post))) (hj : R[j]? = some (.mk t l b)) (hel : ∀ y ∈ ys, El g es y)
    {xs : List AV} {off : Nat} {cap : Option Nat} {nl : Bool} (hx : off + xs.length ≤ ys.length) : elems S g es ⟨some (t, l), off, cap, nl⟩ xs = some ((ys.drop off).take xs.length) := by
  have hb := (h.ok i _ hi).2
  have hm := h.ok j _ hj
  unfold elems
  rw [rd_mk hm]
  simp only [hb]
  have e : ys = ys.take off ++ ((ys.drop off).take xs.length ++ (ys.drop off).drop xs.length) := by rw [List.take_append_drop, List.take_append_drop]
  have hsz : ∀ y ∈ ys, y.cells.length = es := fun y hy => (hel y hy).1
  have := cutAll_flat (g := g) (es := es) (ys := (ys.drop off).take xs.length) (fun y hy => hel y (List.mem_of_mem_drop (List.mem_of_mem_take hy))) ((ys.take off).flatMap AV.cells) (((ys.drop off).drop xs.length).flatMap AV.cells ++ post)
  rw [flat_length fun y hy => hsz y (List.mem_of_mem_take hy), List.length_take, List.length_take, List.length_drop, Nat.min_eq_left (by omega), Nat.min_eq_left (by omega)] at this
  rw [Nat.zero_add, ← this]
  congr 1
  conv => lhs; rw [e]
  simp only [List.flatMap_append, List.append_assoc]

theorem hs_mks {d : Option Nat} {env : Env} {ty : TypeId} {es bytes n c : Nat} {z : AV} {x y : DOpd} (h : Hs S R) (hl : (opd env x).bind nat? = some n) (hc : (opd env y).bind nat? = some c) (hle : n ≤ c) (hpos : 0 < c) (hb : c * bytes ≤ 17592186044416) (hc2 : c ≤ 17592186044416) (hz : z.cells.length = es) :
    ∃ t b S', stepO gt d env S (.mks ty es bytes z x y) = .done (putV d (.sl es ⟨some (t, t), 0, some c, false⟩ (List.replicate n z)) env) S' ∧ Hs S' (R ++ [.bx b ty ((List.replicate c z).flatMap AV.cells)] ++ [.mk t t b]) := by
  have hfl : (List.replicate c z.cells).flatten = (List.replicate c z).flatMap AV.cells := by
    clear hle hpos hb hc2 hc
    induction c with
    | zero => rfl
    | succ c ih => simp only [List.replicate_succ, List.flatten_cons, List.flatMap_cons, ih]
  refine ⟨S.nt, S.nb, { S with nb := S.nb + 1, boxes := (S.nb, some (ty, (List.replicate c z).flatMap AV.cells)) :: S.boxes, nt := S.nt + 1, tip := (S.nt, none) :: S.tip, mv := (S.nt, .bx S.nb 0) :: S.mv }, ?_, ?_⟩
  · have hg : (Nat.ble n c && (Nat.ble (c * bytes) 17592186044416 && (Nat.ble c 17592186044416 && Nat.beq z.cells.length es))) = true := by
      rw [ble_true hle, ble_true hb, ble_true hc2, hz, Nat.beq_refl]; rfl
    have h0 : Nat.beq c 0 = false := by
      cases hq : Nat.beq c 0 with
      | false => rfl
      | true => have := Nat.eq_of_beq_eq_true hq; omega
    simp only [stepO, hl, hc, hg, cond_true, h0, cond_false, hfl]
  · have h1 := h.newBox ty ((List.replicate c z).flatMap AV.cells)
    refine h1.more (S' := { S with nb := S.nb + 1, boxes := (S.nb, some (ty, (List.replicate c z).flatMap AV.cells)) :: S.boxes, nt := S.nt + 1, tip := (S.nt, none) :: S.tip, mv := (S.nt, .bx S.nb 0) :: S.mv }) (r' := .mk S.nt S.nt S.nb) (fun t ht => ?_) ⟨Nat.le_succ _, Nat.le_refl _, Nat.le_refl _, fun t ht _ => ⟨lk_ne _ _ (by simp only at ht; omega), lk_ne _ _ (by simp only at ht; omega)⟩, fun _ _ _ => rfl, fun t m ht hm => ?_, fun _ _ _ => rfl, fun _ _ _ => rfl⟩ ⟨Nat.lt_succ_self _, Nat.lt_succ_self _, lk_same _ _ _⟩ fun j s _ => ?_
    · simp only at ht ⊢
      have := h.wf t (by omega)
      exact ⟨by rw [lk_ne _ _ (by omega)]; exact this.1, this.2⟩
    · simp only at ht hm ⊢
      rw [lk_ne _ _ (by omega)]; exact hm
    · cases s <;> trivial

/-- an element is written, or a part of it -/
theorem arr_st (h : Hs S R) (i : Nat) {j : Nat} {b t l : Nat} {ty : TypeId} {ys post : List AV} {es : Nat} (hi : R[i]? = some (.bx b ty (ys.flatMap AV.cells ++ post))) (hj : R[j]? = some (.mk t l b)) (hsz : ∀ y ∈ ys, y.cells.length = es)
    {d : Option Nat} {env : Env} {a x : DOpd} {xs : List AV} {so k off sz : Nat} {cap : Option Nat} {nl : Bool} {v v' : AV} (ha : loc env a = some (.el es ⟨some (t, l), so, cap, nl⟩ xs k off)) (hx : opd env x = some v) (hv : (Nat.beq v.cells.length sz && v.cells.all ok1) = true)
    (hk : k < xs.length) (hk2 : so + k < ys.length) (ho : off + v.cells.length ≤ es) (hv' : v'.cells = splice ys[so + k].cells off v.cells) :
    ∃ S', stepO gt d env S (.st sz a x) = .done (putV d .undef env) S' ∧ Hs S' (R.set i (.bx b ty ((ys.set (so + k) v').flatMap AV.cells ++ post))) := by
  have hb := (h.ok i _ hi).2
  have hm := h.ok j _ hj
  have hfl := flat_length hsz
  have hle : (so + k + 1) * es ≤ ys.length * es := Nat.mul_le_mul_right _ (by omega)
  rw [Nat.add_mul] at hle
  have hspl : splice (ys.flatMap AV.cells ++ post) (0 + (so + k) * es + off) v.cells = (ys.set (so + k) v').flatMap AV.cells ++ post := by
    rw [set_split hk2]
    conv => lhs; rw [split_at hk2]
    simp only [List.flatMap_append, List.flatMap_cons, List.append_assoc]
    refine splice_mid ?_ ?_ hv'
    · rw [flat_length fun y hy => hsz y (List.mem_of_mem_take hy), List.length_take, Nat.min_eq_left (by omega)]; omega
    · rw [hsz _ (List.getElem_mem _)]; exact ho
  refine ⟨{ S with boxes := (b, some (ty, (ys.set (so + k) v').flatMap AV.cells ++ post)) :: S.boxes }, ?_, h.boxTo hi _⟩
  have hg : (Nat.ble (off + v.cells.length) es && (Nat.blt k xs.length && Nat.ble (0 + (so + k) * es + off + v.cells.length) (ys.flatMap AV.cells ++ post).length)) = true := by
    rw [ble_true ho, show Nat.blt k xs.length = true from Nat.ble_eq_true_of_le hk, ble_true (by rw [List.length_append, hfl]; omega)]; rfl
  simp only [stepO, ha, hx, hv, cond_true, stL, rd_mk hm, hb, hg, hspl]

/-- elements are copied into an array from its beginning -/
theorem arr_cpy (h : Hs S R) (i : Nat) {j : Nat} {b t l : Nat} {ty : TypeId} {ys post zs : List AV} {es : Nat} (hi : R[i]? = some (.bx b ty (ys.flatMap AV.cells ++ post))) (hj : R[j]? = some (.mk t l b)) (hsz : ∀ y ∈ ys, y.cells.length = es)
    {d : Option Nat} {env : Env} {x y : DOpd} {xs : List AV} {cap : Option Nat} {nl : Bool} {yv : AV} (hx : opd env x = some (.sl es ⟨some (t, l), 0, cap, nl⟩ xs)) (hy : opd env y = some yv) (hys : srcE S (Nat.blt 1 es) es yv = some zs) (hzs : ∀ z ∈ zs, z.cells.length = es) (hok : (zs.flatMap AV.cells).all ok1 = true)
    (hle : zs.length ≤ xs.length) (hle2 : zs.length ≤ ys.length) :
    ∃ S', stepO gt d env S (.cpy es x y) = .done (putV d (.int .i64 zs.length) env) S' ∧ Hs S' (R.set i (.bx b ty ((zs ++ ys.drop zs.length).flatMap AV.cells ++ post))) := by
  have hb := (h.ok i _ hi).2
  have hm := h.ok j _ hj
  have hfl := flat_length hsz
  have hfz := flat_length hzs
  have hmin : min zs.length xs.length = zs.length := Nat.min_eq_left hle
  by_cases h0 : zs = []
  · subst h0
    refine ⟨S, ?_, ?_⟩
    · simp only [stepO, hx, hy, hys, Nat.beq_refl, cond_true, List.length_nil, Nat.zero_min]; rfl
    · rw [List.nil_append, List.length_nil, List.drop_zero]
      have : R.set i (.bx b ty (ys.flatMap AV.cells ++ post)) = R := by
        apply List.ext_getElem?
        intro q
        by_cases e : i = q
        · subst e; rw [List.getElem?_set_self', hi]; rfl
        · rw [List.getElem?_set_ne e]
      rw [this]; exact h
  · have hpos : 0 < zs.length := List.length_pos_iff.2 h0
    have hmul : zs.length * es ≤ ys.length * es := Nat.mul_le_mul_right _ hle2
    have hspl : splice (ys.flatMap AV.cells ++ post) (0 + 0 * es) (zs.flatMap AV.cells) = (zs ++ ys.drop zs.length).flatMap AV.cells ++ post := by
      have e : ys = ys.take zs.length ++ ys.drop zs.length := (List.take_append_drop _ _).symm
      conv => lhs; rw [e]
      simp only [List.flatMap_append, List.append_assoc]
      have := splice_mid (pre := []) (m := (ys.take zs.length).flatMap AV.cells) (post := (ys.drop zs.length).flatMap AV.cells ++ post) (new := zs.flatMap AV.cells) (m' := zs.flatMap AV.cells) (n := 0 + 0 * es) (off := 0) (by simp) (by
        rw [flat_length fun y hy => hsz y (List.mem_of_mem_take hy), List.length_take, Nat.min_eq_left hle2, hfz]; omega) (by
        have hl : ((ys.take zs.length).flatMap AV.cells).length = (zs.flatMap AV.cells).length := by rw [flat_length fun y hy => hsz y (List.mem_of_mem_take hy), List.length_take, Nat.min_eq_left hle2, hfz]
        simp [splice, ← hl])
      simpa only [List.nil_append] using this
    refine ⟨{ S with boxes := (b, some (ty, (zs ++ ys.drop zs.length).flatMap AV.cells ++ post)) :: S.boxes }, ?_, h.boxTo hi _⟩
    have hz : Nat.beq zs.length 0 = false := by
      cases hq : Nat.beq zs.length 0 with
      | false => rfl
      | true => have := Nat.eq_of_beq_eq_true hq; omega
    have hg : ((zs.flatMap AV.cells).all ok1 && Nat.ble (0 + 0 * es + (zs.flatMap AV.cells).length) (ys.flatMap AV.cells ++ post).length) = true := by
      rw [hok, ble_true (by rw [List.length_append, hfl, hfz]; omega)]; rfl
    simp only [stepO, hx, hy, hys, Nat.beq_refl, cond_true, hmin, hz, cond_false, rd_mk hm, hb, List.take_length, hg, hspl]

/-- one more element, within the capacity -/
theorem arr_app (h : Hs S R) (i : Nat) {j : Nat} {b t l : Nat} {ty ty2 : TypeId} {ys post : List AV} {es bytes cap : Nat} {g : Bool} (hi : R[i]? = some (.bx b ty (ys.flatMap AV.cells ++ post))) (hj : R[j]? = some (.mk t l b)) (hel : ∀ y ∈ ys, El g es y)
    {d : Option Nat} {env : Env} {x y : DOpd} {xs : List AV} {nl : Bool} {yv v : AV} (hx : opd env x = some (.sl es ⟨some (t, l), 0, some cap, nl⟩ xs)) (hxl : xs.length = ys.length) (hy : opd env y = some yv) (hys : srcE S g es yv = some [v]) (hv : v.cells.length = es) (hok : v.cells.all ok1 = true) (hes : 0 < es)
    (hcap : ys.length + 1 ≤ cap) (hpost : es ≤ post.length) (hb1 : (ys.length + 1) * bytes ≤ 140737488355328) (hb2 : ys.length + 1 ≤ 140737488355328) (hb3 : bytes ≤ 1048576) :
    ∃ S', stepO gt d env S (.app g ty2 es bytes x y) = .done (putV d (.sl es ⟨some (t, l), 0, some cap, nl⟩ (ys ++ [v])) env) S' ∧ Hs S' (R.set i (.bx b ty ((ys ++ [v]).flatMap AV.cells ++ post.drop es))) := by
  have hb := (h.ok i _ hi).2
  have hm := h.ok j _ hj
  have hsz : ∀ y ∈ ys, y.cells.length = es := fun y hy => (hel y hy).1
  have hfl := flat_length hsz
  have he := arr_els h hi hj hel (off := 0) (cap := some cap) (nl := nl) (xs := xs) (by omega)
  rw [List.drop_zero, hxl, List.take_length] at he
  have hspl : splice (ys.flatMap AV.cells ++ post) (0 + (0 + xs.length) * es) v.cells = (ys ++ [v]).flatMap AV.cells ++ post.drop es := by
    have hn : 0 + (0 + xs.length) * es = (ys.flatMap AV.cells).length + 0 := by rw [hfl, hxl]; simp
    have := splice_mid (pre := ys.flatMap AV.cells) (m := post.take es) (post := post.drop es) (new := v.cells) (m' := v.cells) hn (by rw [List.length_take, hv]; omega) (by
      have hl : (post.take es).length = v.cells.length := by rw [List.length_take, hv]; omega
      simp [splice, ← hl])
    rw [List.take_append_drop] at this
    rw [this]
    simp only [List.flatMap_append, List.flatMap_cons, List.flatMap_nil, List.append_nil, List.append_assoc]
  refine ⟨{ S with boxes := (b, some (ty, (ys ++ [v]).flatMap AV.cells ++ post.drop es)) :: S.boxes }, ?_, h.boxTo hi _⟩
  have hguard : (Nat.beq es es && (Nat.ble ((xs.length + ([v] : List AV).length) * bytes) 140737488355328 && (Nat.ble (xs.length + ([v] : List AV).length) 140737488355328 && (Nat.ble bytes 1048576 && Nat.blt 0 es)))) = true := by
    rw [Nat.beq_refl, ble_true (by rw [hxl]; exact hb1), ble_true (by rw [hxl]; exact hb2), ble_true hb3]
    simp only [Bool.true_and]
    exact Nat.ble_eq_true_of_le hes
  have hg2 : ((([v] : List AV).flatMap AV.cells).all ok1 && Nat.ble (0 + (0 + xs.length) * es + (([v] : List AV).flatMap AV.cells).length) (ys.flatMap AV.cells ++ post).length) = true := by
    simp only [List.flatMap_cons, List.flatMap_nil, List.append_nil, hok, Bool.true_and]
    exact ble_true (by rw [List.length_append, hfl, hv, hxl, Nat.zero_add, Nat.zero_add]; omega)
  have hfv : ([v] : List AV).flatMap AV.cells = v.cells := by simp
  simp only [stepO, hx, hy, appV, hys, he, hguard, cond_true, ble_true (show xs.length + ([v] : List AV).length ≤ cap by rw [hxl]; exact hcap), rd_mk hm, hb, hg2]
  simp only [hfv, hspl]

end

theorem st_run {C : CallT} {gt : GT} {d : Option Nat} {op : DOp} {gd : Option (Nat × Bool)} {env env' : Env} {S : St} {R : List Rs} {K : Env → St → Prop} {Q : Ex → Env → St → Prop} (h : ∃ S', stepO gt d env S op = .done env' S' ∧ Hs S' R) (hg : Gd env gd) (k : ∀ S', Hs S' R → K env' S') : afterS C d env S K Q (stepI gt ⟨d, op, gd⟩ env S) := by
  obtain ⟨S', h1, h2⟩ := h
  exact st_any hg h1 (k S' h2)
theorem st_runD {C : CallT} {gt : GT} {d : Option Nat} {op : DOp} {gd : Option (Nat × Bool)} {l : Option Nat} {env env' : Env} {S : St} {R : List Rs} {K : Env → St → Prop} {Q : Ex → Env → St → Prop} (h : ∃ S', stepO gt d env S op = .done env' S' ∧ Hs S' R) (hg : Gd env gd) (h0 : isLoc op = false) (h1 : conform l env op = true) (k : ∀ S', Hs S' R → K env' S') : afterS C d env S K Q (stepD gt (⟨d, op, gd⟩, l) env S) := by
  obtain ⟨S', h2, h3⟩ := h
  exact st_anyD hg h0 h1 h2 (k S' h3)
theorem r_mks {C : CallT} {gt : GT} {S : St} {R : List Rs} {d : Option Nat} {env : Env} {ty : TypeId} {es bytes n c : Nat} {z : AV} {x y : DOpd} {gd : Option (Nat × Bool)} {K : Env → St → Prop} {Q : Ex → Env → St → Prop} (h : Hs S R) (hg : Gd env gd) (hl : (opd env x).bind nat? = some n) (hc : (opd env y).bind nat? = some c) (hle : n ≤ c) (hpos : 0 < c) (hb : c * bytes ≤ 17592186044416) (hc2 : c ≤ 17592186044416) (hz : z.cells.length = es)
    (k : ∀ t b S', Hs S' (R ++ [.bx b ty ((List.replicate c z).flatMap AV.cells)] ++ [.mk t t b]) → K (putV d (.sl es ⟨some (t, t), 0, some c, false⟩ (List.replicate n z)) env) S') : afterS C d env S K Q (stepI gt ⟨d, .mks ty es bytes z x y, gd⟩ env S) := by
  obtain ⟨t, b, S', h1, h2⟩ := hs_mks (gt := gt) (d := d) h hl hc hle hpos hb hc2 hz
  exact st_any hg h1 (k t b S' h2)
end Go.Dn

namespace Go.Dn
open Go Go.Proofs.C1
set_option maxRecDepth 100000
attribute [local irreducible] afterS keepE

theorem st_neS {gt : GT} {d : Option Nat} {x y : DOpd} {env : Env} {S : St} {a a' : List UInt8} {n n' : Int} (hx : opd env x = some (.agg [.str a, .int .i64 n])) (hy : opd env y = some (.agg [.str a', .int .i64 n'])) :
    stepO gt d env S (.bin .neq (some (.st [(0, .str), (1, .int)])) x y) = .done (putV d (.bool (!(beqB a a' && (n == n')))) env) S := by
  simp only [stepO, hx, hy, binV, eqv, eqvs, aggs, List.getElem?_cons_zero, List.getElem?_cons_succ, eqStr, eqInt, if_true]
  cases beqB a a' <;> simp only [Bool.true_and, Bool.false_and, Option.map_some, SR.val]
  cases (n == n') <;> rfl

theorem eqS_iff {a b : PS} : (beqB a.key b.key && (a.num == b.num)) = true ↔ a = b := by
  obtain ⟨k, n⟩ := a
  obtain ⟨k', n'⟩ := b
  simp [beqB_iff]
theorem eqS_false {a b : PS} (h : ¬ a = b) : (beqB a.key b.key && (a.num == b.num)) = false := by
  cases hh : (beqB a.key b.key && (a.num == b.num)) with
  | false => rfl
  | true => exact absurd (eqS_iff.1 hh) h

theorem splice_all {m new : List AV} (h : m.length = new.length) : splice m 0 new = new := by simp [splice, ← h]

theorem encSs_app (a b : List PS) : encSs (a ++ b) = encSs a ++ encSs b := by simp [encSs]
theorem encSs_take (a : List PS) (n : Nat) : (encSs a).take n = encSs (a.take n) := by simp [encSs, List.map_take]
theorem encSs_rep (n : Nat) (m : PS) : encSs (List.replicate n m) = List.replicate n (encS m) := by simp [encSs]
theorem encSs_el (a : List PS) : ∀ y ∈ encSs a, El true 2 y := fun y hy => by
  simp only [encSs, List.mem_map] at hy
  obtain ⟨s, _, rfl⟩ := hy
  exact ⟨rfl, rfl⟩
theorem encSs_ok (a : List PS) : ((encSs a).flatMap AV.cells).all ok1 = true := by
  induction a with
  | nil => rfl
  | cons s r ih => simp [encSs, encS, AV.cells, ok1]

section
variable {gt : GT} {C : CallT}

abbrev E_ss (a b : List PS) (i : Int) : Env := [(0, .val (.sl 2 stat (encSs a))), (1, .val (.sl 2 stat (encSs b))), (5, .val (.int .i64 i))]

set_option maxHeartbeats 2000000 in
/-- lists of steps, one and the same -/
theorem sameS_wp (hm : MonoC C) {a : List PS} (hl : a.length ≤ 4611686018427387904) : wpF gt C F51 [.sl 2 stat (encSs a), .sl 2 stat (encSs a)] St.init (Ret (.bool true)) := by
  have l1 := encSs_len a
  refine ⟨rfl, ?_⟩
  (try refine And.intro (by rfl) ?_); (conv => whnf); repeat (first | (refine sI (by rfl) ?_; conv => whnf) | (refine sD (by rfl) (by rfl) ?_; conv => whnf) | (generalize hE : keepE _ _ = e0; revert hE; apply kI; (repeat (first | exact kN _ | (apply kC; with_unfolding_all rfl; rfl))); rintro rfl; conv => whnf))
  rw [neI_false rfl]
  (try refine And.intro (by rfl) ?_); (conv => whnf); repeat (first | (refine sI (by rfl) ?_; conv => whnf) | (refine sD (by rfl) (by rfl) ?_; conv => whnf) | (generalize hE : keepE _ _ = e0; revert hE; apply kI; (repeat (first | exact kN _ | (apply kC; with_unfolding_all rfl; rfl))); rintro rfl; conv => whnf))
  refine loop_rule hm (α := Nat) (fun i env S' => i ≤ a.length ∧ env = E_ss a a i ∧ S' = St.init) (fun i => a.length - i) ?_ (a := 0) ⟨Nat.zero_le _, rfl, rfl⟩
  rintro i env S' ⟨hi, rfl, rfl⟩
  (try refine And.intro (by rfl) ?_); (conv => whnf); repeat (first | (refine sI (by rfl) ?_; conv => whnf) | (refine sD (by rfl) (by rfl) ?_; conv => whnf) | (generalize hE : keepE _ _ = e0; revert hE; apply kI; (repeat (first | exact kN _ | (apply kC; with_unfolding_all rfl; rfl))); rintro rfl; conv => whnf))
  by_cases hc : (i : Int) < (encSs a).length
  · rw [decide_eq_true hc]
    (try refine And.intro (by rfl) ?_); (conv => whnf); repeat (first | (refine sI (by rfl) ?_; conv => whnf) | (refine sD (by rfl) (by rfl) ?_; conv => whnf) | (generalize hE : keepE _ _ = e0; revert hE; apply kI; (repeat (first | exact kN _ | (apply kC; with_unfolding_all rfl; rfl))); rintro rfl; conv => whnf))
    have hik : i < a.length := by omega
    have hge := encSs_get hik
    generalize a[i] = s at hge
    obtain ⟨key, num⟩ := s
    refine step_ruleDO rfl rfl (sx_ia (k := i) rfl rfl (by omega)) ?_
    (try refine And.intro (by rfl) ?_); (conv => whnf); repeat (first | (refine sI (by rfl) ?_; conv => whnf) | (refine sD (by rfl) (by rfl) ?_; conv => whnf) | (generalize hE : keepE _ _ = e0; revert hE; apply kI; (repeat (first | exact kN _ | (apply kC; with_unfolding_all rfl; rfl))); rintro rfl; conv => whnf))
    refine step_ruleDO rfl rfl (sx_ldEl (agg := true) rfl rfl hge (rdS _)) ?_
    (try refine And.intro (by rfl) ?_); (conv => whnf); repeat (first | (refine sI (by rfl) ?_; conv => whnf) | (refine sD (by rfl) (by rfl) ?_; conv => whnf) | (generalize hE : keepE _ _ = e0; revert hE; apply kI; (repeat (first | exact kN _ | (apply kC; with_unfolding_all rfl; rfl))); rintro rfl; conv => whnf))
    refine step_ruleDO rfl rfl (sx_ia (k := i) rfl rfl (by omega)) ?_
    (try refine And.intro (by rfl) ?_); (conv => whnf); repeat (first | (refine sI (by rfl) ?_; conv => whnf) | (refine sD (by rfl) (by rfl) ?_; conv => whnf) | (generalize hE : keepE _ _ = e0; revert hE; apply kI; (repeat (first | exact kN _ | (apply kC; with_unfolding_all rfl; rfl))); rintro rfl; conv => whnf))
    refine step_ruleDO rfl rfl (sx_ldEl (agg := true) rfl rfl hge (rdS _)) ?_
    (try refine And.intro (by rfl) ?_); (conv => whnf); repeat (first | (refine sI (by rfl) ?_; conv => whnf) | (refine sD (by rfl) (by rfl) ?_; conv => whnf) | (generalize hE : keepE _ _ = e0; revert hE; apply kI; (repeat (first | exact kN _ | (apply kC; with_unfolding_all rfl; rfl))); rintro rfl; conv => whnf))
    refine step_ruleDO rfl rfl (st_neS rfl rfl) ?_
    rw [eqB_true (rfl : key = key), eqI_true (rfl : num = num)]
    (try refine And.intro (by rfl) ?_); (conv => whnf); repeat (first | (refine sI (by rfl) ?_; conv => whnf) | (refine sD (by rfl) (by rfl) ?_; conv => whnf) | (generalize hE : keepE _ _ = e0; revert hE; apply kI; (repeat (first | exact kN _ | (apply kC; with_unfolding_all rfl; rfl))); rintro rfl; conv => whnf))
    refine ⟨i + 1, ⟨by omega, ?_, rfl⟩, by omega⟩
    rw [wrNat (by omega)]
  rw [decide_eq_false hc]
  (try refine And.intro (by rfl) ?_); (conv => whnf); repeat (first | (refine sI (by rfl) ?_; conv => whnf) | (refine sD (by rfl) (by rfl) ?_; conv => whnf) | (generalize hE : keepE _ _ = e0; revert hE; apply kI; (repeat (first | exact kN _ | (apply kC; with_unfolding_all rfl; rfl))); rintro rfl; conv => whnf))
  exact ⟨_, rfl, Ret.sta trivial⟩

abbrev E_roomy (m : PS) (t n : Nat) (xs : List AV) (i : Int) : Env := [(3, .box (encS m).cells), (5, .val (.sl 2 ⟨some (t, t), 0, some n, false⟩ xs)), (6, .val (.int .i64 i))]

set_option maxHeartbeats 2000000 in
theorem roomy_wp (hm : MonoC C) {p : List PS} {m : PS} (hl : p.length ≤ 1000000) : wpF gt C F25 [.sl 2 stat (encSs p), encS m] St.init (Ret (.sl 2 stat (encSs (p ++ List.replicate 80 m)))) := by
  have l1 := encSs_len p
  obtain ⟨mk, mn⟩ := m
  refine ⟨rfl, ?_⟩
  (try refine And.intro (by rfl) ?_); (conv => whnf); repeat (first | (refine sI (by rfl) ?_; conv => whnf) | (refine sD (by rfl) (by rfl) ?_; conv => whnf) | (generalize hE : keepE _ _ = e0; revert hE; apply kI; (repeat (first | exact kN _ | (apply kC; with_unfolding_all rfl; rfl))); rintro rfl; conv => whnf))
  rw [show wr .i64 (((encSs p).length : Int) + 80) = ((p.length + 80 : Nat) : Int) by rw [wr64 (by omega) (by omega), l1]; rfl]
  refine r_mks Hs.init trivial (n := p.length + 80) (c := p.length + 80) rfl rfl (Nat.le_refl _) (by omega) (by omega) (by omega) rfl ?_
  intro t b S1 hR
  (try refine And.intro (by rfl) ?_); (conv => whnf); repeat (first | (refine sI (by rfl) ?_; conv => whnf) | (refine sD (by rfl) (by rfl) ?_; conv => whnf) | (generalize hE : keepE _ _ = e0; revert hE; apply kI; (repeat (first | exact kN _ | (apply kC; with_unfolding_all rfl; rfl))); rintro rfl; conv => whnf))
  have hi0 : ([] ++ [Rs.bx b 41 ((List.replicate (p.length + 80) (AV.agg [.str [], .int .i64 0])).flatMap AV.cells)] ++ [.mk t t b])[0]? = some (.bx b 41 ((encSs (List.replicate (p.length + 80) (⟨[], 0⟩ : PS))).flatMap AV.cells ++ [])) := by rw [List.append_nil, encSs_rep]; rfl
  refine st_run (arr_cpy hR 0 (j := 1) hi0 rfl (fun y hy => (encSs_el _ y hy).1) rfl rfl rfl (fun y hy => (encSs_el p y hy).1) (encSs_ok p) (by rw [l1]; simp) (by rw [l1, encSs_len]; simp)) trivial ?_
  intro S2 hR
  (try refine And.intro (by rfl) ?_); (conv => whnf); repeat (first | (refine sI (by rfl) ?_; conv => whnf) | (refine sD (by rfl) (by rfl) ?_; conv => whnf) | (generalize hE : keepE _ _ = e0; revert hE; apply kI; (repeat (first | exact kN _ | (apply kC; with_unfolding_all rfl; rfl))); rintro rfl; conv => whnf))
  have hys : encSs p ++ (encSs (List.replicate (p.length + 80) (⟨[], 0⟩ : PS))).drop (encSs p).length = encSs (p ++ List.replicate 80 (⟨[], 0⟩ : PS)) := by
    rw [l1, encSs_app, encSs_rep, encSs_rep, List.drop_replicate, show p.length + 80 - p.length = 80 by omega]
  rw [hys] at hR
  refine loop_rule hm (α := Nat) (fun i env S' => i ≤ 80 ∧ env = E_roomy ⟨mk, mn⟩ t (p.length + 80) (List.replicate (p.length + 80) (.agg [.str [], .int .i64 0])) ((p.length + i : Nat) : Int) ∧ Hs S' [.bx b 41 ((encSs (p ++ (List.replicate i (⟨mk, mn⟩ : PS) ++ List.replicate (80 - i) (⟨[], 0⟩ : PS)))).flatMap AV.cells ++ []), .mk t t b]) (fun i => 80 - i) ?_ (a := 0) ⟨Nat.zero_le _, by rw [l1]; rfl, hR⟩
  rintro i env S' ⟨hi, rfl, hR⟩
  (try refine And.intro (by rfl) ?_); (conv => whnf); repeat (first | (refine sI (by rfl) ?_; conv => whnf) | (refine sD (by rfl) (by rfl) ?_; conv => whnf) | (generalize hE : keepE _ _ = e0; revert hE; apply kI; (repeat (first | exact kN _ | (apply kC; with_unfolding_all rfl; rfl))); rintro rfl; conv => whnf))
  have hrl : (List.replicate (p.length + 80) (AV.agg [.str [], .int .i64 0])).length = p.length + 80 := List.length_replicate
  have hall := encSs_len (p ++ (List.replicate i (⟨mk, mn⟩ : PS) ++ List.replicate (80 - i) (⟨[], 0⟩ : PS)))
  simp only [List.length_append, List.length_replicate] at hall
  by_cases hc : ((p.length + i : Nat) : Int) < (List.replicate (p.length + 80) (AV.agg [.str [], .int .i64 0])).length
  · rw [decide_eq_true hc]
    (try refine And.intro (by rfl) ?_); (conv => whnf); repeat (first | (refine sI (by rfl) ?_; conv => whnf) | (refine sD (by rfl) (by rfl) ?_; conv => whnf) | (generalize hE : keepE _ _ = e0; revert hE; apply kI; (repeat (first | exact kN _ | (apply kC; with_unfolding_all rfl; rfl))); rintro rfl; conv => whnf))
    rw [hrl] at hc
    have hi80 : i < 80 := by omega
    refine step_ruleO (sx_ia (k := p.length + i) rfl rfl (by rw [hrl]; omega)) ?_
    (try refine And.intro (by rfl) ?_); (conv => whnf); repeat (first | (refine sI (by rfl) ?_; conv => whnf) | (refine sD (by rfl) (by rfl) ?_; conv => whnf) | (generalize hE : keepE _ _ = e0; revert hE; apply kI; (repeat (first | exact kN _ | (apply kC; with_unfolding_all rfl; rfl))); rintro rfl; conv => whnf))
    refine st_run (arr_st hR 0 (j := 1) rfl rfl (fun y hy => (encSs_el _ y hy).1) (k := p.length + i) (so := 0) (off := 0) (v' := encS ⟨mk, mn⟩) rfl rfl rfl (by rw [hrl]; omega) (by rw [hall]; omega) (Nat.le_refl 2) ?_) trivial ?_
    · have := (encSs_el (p ++ (List.replicate i (⟨mk, mn⟩ : PS) ++ List.replicate (80 - i) (⟨[], 0⟩ : PS))) _ (List.getElem_mem (show 0 + (p.length + i) < (encSs _).length by rw [hall]; omega))).1
      exact (splice_all (new := (encS ⟨mk, mn⟩).cells) (by rw [this]; rfl)).symm
    intro S3 hR
    (try refine And.intro (by rfl) ?_); (conv => whnf); repeat (first | (refine sI (by rfl) ?_; conv => whnf) | (refine sD (by rfl) (by rfl) ?_; conv => whnf) | (generalize hE : keepE _ _ = e0; revert hE; apply kI; (repeat (first | exact kN _ | (apply kC; with_unfolding_all rfl; rfl))); rintro rfl; conv => whnf))
    refine ⟨i + 1, ⟨by omega, ?_, ?_⟩, by omega⟩
    · rw [wrNat (by omega), show p.length + i + 1 = p.length + (i + 1) by omega]
    · have : (encSs (p ++ (List.replicate i (⟨mk, mn⟩ : PS) ++ List.replicate (80 - i) (⟨[], 0⟩ : PS)))).set (0 + (p.length + i)) (encS ⟨mk, mn⟩) = encSs (p ++ (List.replicate (i + 1) (⟨mk, mn⟩ : PS) ++ List.replicate (80 - (i + 1)) ⟨[], 0⟩)) := by
        simp only [encSs, ← List.map_set]
        congr 1
        rw [Nat.zero_add, List.set_append_right _ _ (by omega), show p.length + i - p.length = i by omega, List.set_append_right _ _ (by simp), List.length_replicate, Nat.sub_self, show 80 - i = (80 - (i + 1)) + 1 by omega, List.replicate_succ, List.set_cons_zero, List.replicate_succ', List.append_assoc]
        rfl
      rw [← this]; exact hR
  · rw [decide_eq_false hc]
    (try refine And.intro (by rfl) ?_); (conv => whnf); repeat (first | (refine sI (by rfl) ?_; conv => whnf) | (refine sD (by rfl) (by rfl) ?_; conv => whnf) | (generalize hE : keepE _ _ = e0; revert hE; apply kI; (repeat (first | exact kN _ | (apply kC; with_unfolding_all rfl; rfl))); rintro rfl; conv => whnf))
    rw [hrl] at hc
    obtain rfl : i = 80 := by omega
    rw [show p ++ (List.replicate 80 (⟨mk, mn⟩ : PS) ++ List.replicate (80 - 80) (⟨[], 0⟩ : PS)) = p ++ List.replicate 80 (⟨mk, mn⟩ : PS) by simp] at hR
    have he := arr_els hR (i := 0) (j := 1) rfl rfl (encSs_el _) (off := 0) (cap := some (p.length + 80)) (nl := false) (xs := List.replicate (p.length + 80) (AV.agg [.str [], .int .i64 0])) (by rw [encSs_len]; simp)
    rw [List.drop_zero, hrl, List.take_of_length_le (by rw [encSs_len]; simp)] at he
    refine ⟨_, rfl, _, rfl, ?_⟩
    simp only [Rdo]
    exact ⟨trivial, _, _, true, _, rfl, he, Stas.rdos _ (sta_Ss _)⟩

abbrev E_intact (full : List PS) (m : PS) (i : Int) : Env := [(0, .val (.sl 2 stat (encSs full))), (5, .box (encS m).cells), (7, .val (.int .i64 i))]

set_option maxHeartbeats 2000000 in
theorem intact_wp (hm : MonoC C) (hs : ∀ a : List PS, a.length ≤ 4611686018427387904 → PF C 51 [.sl 2 stat (encSs a), .sl 2 stat (encSs a)] (.bool true)) {p : List PS} {m : PS} (hl : p.length ≤ 1000000) :
    wpF gt C F27 [.sl 2 stat (encSs (p ++ List.replicate 80 m)), .sl 2 stat (encSs p), encS m] St.init (Ret (.bool true)) := by
  have l1 := encSs_len p
  have l2 := encSs_len (p ++ List.replicate 80 m)
  simp only [List.length_append, List.length_replicate] at l2
  have hs := hs p (by omega)
  obtain ⟨mk, mn⟩ := m
  refine ⟨rfl, ?_⟩
  (try refine And.intro (by rfl) ?_); (conv => whnf); repeat (first | (refine sI (by rfl) ?_; conv => whnf) | (refine sD (by rfl) (by rfl) ?_; conv => whnf) | (generalize hE : keepE _ _ = e0; revert hE; apply kI; (repeat (first | exact kN _ | (apply kC; with_unfolding_all rfl; rfl))); rintro rfl; conv => whnf))
  rw [wr64 (by omega) (by omega), neI_false (by rw [l1, l2]; omega)]
  (try refine And.intro (by rfl) ?_); (conv => whnf); repeat (first | (refine sI (by rfl) ?_; conv => whnf) | (refine sD (by rfl) (by rfl) ?_; conv => whnf) | (generalize hE : keepE _ _ = e0; revert hE; apply kI; (repeat (first | exact kN _ | (apply kC; with_unfolding_all rfl; rfl))); rintro rfl; conv => whnf))
  refine st_any (by exact rfl) (sx_slHi (h := p.length) rfl (by rw [← l1]; rfl) (by omega)) ?_
  have htk : (encSs (p ++ List.replicate 80 (⟨mk, mn⟩ : PS))).take p.length = encSs p := by rw [encSs_take]; simp
  rw [htk]
  (try refine And.intro (by rfl) ?_); (conv => whnf); repeat (first | (refine sI (by rfl) ?_; conv => whnf) | (refine sD (by rfl) (by rfl) ?_; conv => whnf) | (generalize hE : keepE _ _ = e0; revert hE; apply kI; (repeat (first | exact kN _ | (apply kC; with_unfolding_all rfl; rfl))); rintro rfl; conv => whnf))
  refine call_pf hm (by rfl) hs ?_
  (try refine And.intro (by rfl) ?_); (conv => whnf); repeat (first | (refine sI (by rfl) ?_; conv => whnf) | (refine sD (by rfl) (by rfl) ?_; conv => whnf) | (generalize hE : keepE _ _ = e0; revert hE; apply kI; (repeat (first | exact kN _ | (apply kC; with_unfolding_all rfl; rfl))); rintro rfl; conv => whnf))
  refine loop_rule hm (α := Nat) (fun i env S' => i ≤ 80 ∧ env = E_intact (p ++ List.replicate 80 (⟨mk, mn⟩ : PS)) ⟨mk, mn⟩ ((p.length + i : Nat) : Int) ∧ S' = St.init) (fun i => 80 - i) ?_ (a := 0) ⟨Nat.zero_le _, by rw [l1]; rfl, rfl⟩
  rintro i env S' ⟨hi, rfl, rfl⟩
  (try refine And.intro (by rfl) ?_); (conv => whnf); repeat (first | (refine sI (by rfl) ?_; conv => whnf) | (refine sD (by rfl) (by rfl) ?_; conv => whnf) | (generalize hE : keepE _ _ = e0; revert hE; apply kI; (repeat (first | exact kN _ | (apply kC; with_unfolding_all rfl; rfl))); rintro rfl; conv => whnf))
  by_cases hc : ((p.length + i : Nat) : Int) < (encSs (p ++ List.replicate 80 (⟨mk, mn⟩ : PS))).length
  · rw [decide_eq_true hc]
    (try refine And.intro (by rfl) ?_); (conv => whnf); repeat (first | (refine sI (by rfl) ?_; conv => whnf) | (refine sD (by rfl) (by rfl) ?_; conv => whnf) | (generalize hE : keepE _ _ = e0; revert hE; apply kI; (repeat (first | exact kN _ | (apply kC; with_unfolding_all rfl; rfl))); rintro rfl; conv => whnf))
    have hge : (encSs (p ++ List.replicate 80 (⟨mk, mn⟩ : PS)))[p.length + i]? = some (encS ⟨mk, mn⟩) := by
      rw [encSs_get (by rw [List.length_append, List.length_replicate]; omega), List.getElem_append_right (by omega), List.getElem_replicate]
    refine step_ruleDO rfl rfl (sx_ia (k := p.length + i) rfl rfl (by omega)) ?_
    (try refine And.intro (by rfl) ?_); (conv => whnf); repeat (first | (refine sI (by rfl) ?_; conv => whnf) | (refine sD (by rfl) (by rfl) ?_; conv => whnf) | (generalize hE : keepE _ _ = e0; revert hE; apply kI; (repeat (first | exact kN _ | (apply kC; with_unfolding_all rfl; rfl))); rintro rfl; conv => whnf))
    refine step_ruleDO rfl rfl (sx_ldEl (agg := true) rfl rfl hge (rdS _)) ?_
    (try refine And.intro (by rfl) ?_); (conv => whnf); repeat (first | (refine sI (by rfl) ?_; conv => whnf) | (refine sD (by rfl) (by rfl) ?_; conv => whnf) | (generalize hE : keepE _ _ = e0; revert hE; apply kI; (repeat (first | exact kN _ | (apply kC; with_unfolding_all rfl; rfl))); rintro rfl; conv => whnf))
    refine step_ruleDO rfl rfl (st_neS rfl rfl) ?_
    rw [eqB_true (rfl : mk = mk), eqI_true (rfl : mn = mn)]
    (try refine And.intro (by rfl) ?_); (conv => whnf); repeat (first | (refine sI (by rfl) ?_; conv => whnf) | (refine sD (by rfl) (by rfl) ?_; conv => whnf) | (generalize hE : keepE _ _ = e0; revert hE; apply kI; (repeat (first | exact kN _ | (apply kC; with_unfolding_all rfl; rfl))); rintro rfl; conv => whnf))
    refine ⟨i + 1, ⟨by omega, ?_, rfl⟩, by omega⟩
    rw [wrNat (by omega), show p.length + i + 1 = p.length + (i + 1) by omega]
  rw [decide_eq_false hc]
  (try refine And.intro (by rfl) ?_); (conv => whnf); repeat (first | (refine sI (by rfl) ?_; conv => whnf) | (refine sD (by rfl) (by rfl) ?_; conv => whnf) | (generalize hE : keepE _ _ = e0; revert hE; apply kI; (repeat (first | exact kN _ | (apply kC; with_unfolding_all rfl; rfl))); rintro rfl; conv => whnf))
  exact ⟨_, rfl, Ret.sta trivial⟩

theorem findN_ok : ∀ {path : List PS} {n x : PN} {a b : Int}, findN n path a = some (x, b) → n.ok → x.ok
  | [], n, x, a, b, h, hn => by simp only [findN, Option.some.injEq, Prod.mk.injEq] at h; rw [← h.1]; exact hn
  | s :: r, n, x, a, b, h, hn => by
    simp only [findN] at h
    split at h
    · cases h
    · split at h
      · cases h
      · rename_i k hk
        refine findN_ok h ?_
        obtain ⟨k', a', b', c', leaf, h', kids, seps, t, e, f⟩ := n
        simp only [PN.ok] at hn
        obtain ⟨hlt, rfl⟩ := List.getElem?_eq_some_iff.1 hk
        exact PN.oks_get hlt hn.2.2.2

theorem zero_ok : PN.zero.ok := by simp [PN.zero, PN.ok, PT.ok, PT.oks, PN.oks]

set_option maxHeartbeats 2000000 in
theorem cstFinds_wp (hm : MonoC C) (hruns : PF C 3 [] (.bool true)) (hsize : ∀ (u : PN) m, u.ok → m < 2305843009213693952 → PF C 16 [encN u, .int .i64 m] (.int .i64 (sizeN u m)))
    (hroomy : ∀ (p : List PS) m, p.length ≤ 1000000 → PF C 25 [.sl 2 stat (encSs p), encS m] (.sl 2 stat (encSs (p ++ List.replicate 80 m))))
    (hintact : ∀ (p : List PS) m, p.length ≤ 1000000 → PF C 27 [.sl 2 stat (encSs (p ++ List.replicate 80 m)), .sl 2 stat (encSs p), encS m] (.bool true))
    (hfind : ∀ (n : PN) (path : List PS), n.ok → n.tb ≤ 140737488355328 → path.length ≤ 4611686018427387904 → PF C 15 [encN n, .sl 2 stat (encSs path)] (encFind (findN n path 0)))
    (hfindR : ∀ (n : PN) (path : List PS), n.ok → n.tb ≤ 140737488355328 → path.length ≤ 4611686018427387904 → PF C 26 [encN n, .sl 2 stat (encSs path)] (encFind (findN n path 0)))
    (hsame : ∀ u u' : PN, u.ok → PF C 23 [encN u, encN u'] (.bool (eqN u u')))
    {n : PN} {path : List PS} (hk : n.ok) (hL : n.tb ≤ 140737488355328) (hp : path.length ≤ 140737488355328) : wpF gt C F5 [encN n, .sl 2 stat (encSs path)] St.init (Ret (.bool true)) := by
  have hsz := hsize n 6000 hk (by omega)
  have hfin : ∀ q : List PS, q.length ≤ 1000000 → True := fun _ _ => trivial
  clear hfin
  have l0 := encSs_len path
  obtain ⟨q, hq, hq2⟩ : ∃ q : List PS, (q = if path.length > 70 then path.take 70 else path) ∧ q.length ≤ 70 := ⟨_, rfl, by
    split
    · rw [List.length_take]; omega
    · omega⟩
  have l1 := encSs_len q
  have l2 := encSs_len (q ++ List.replicate 80 (⟨[103, 111, 110, 101], 0⟩ : PS))
  simp only [List.length_append, List.length_replicate] at l2
  have hroomy := hroomy q ⟨[103, 111, 110, 101], 0⟩ (by omega)
  have hintact := hintact q ⟨[103, 111, 110, 101], 0⟩ (by omega)
  have hf := hfind n q hk hL (by omega)
  have hfR := hfindR n q hk hL (by omega)
  have htk : (encSs (q ++ List.replicate 80 (⟨[103, 111, 110, 101], 0⟩ : PS))).take q.length = encSs q := by rw [encSs_take]; simp
  -- what is found, and its parts
  have hx : ∃ (x : PN) (a : Int) (ok : Bool), encFind (findN n q 0) = .tup [encN x, .int .i64 a, .bool ok] ∧ x.ok := by
    cases hh : findN n q 0 with
    | none => exact ⟨_, _, _, rfl, zero_ok⟩
    | some p => obtain ⟨x, a⟩ := p; exact ⟨x, a, true, rfl, findN_ok hh hk⟩
  obtain ⟨x, a, ok, hx, hxk⟩ := hx
  rw [hx] at hf hfR
  have hsame := hsame x x hxk
  rw [eqN_true rfl] at hsame
  clear hx
  obtain ⟨w0, w1, w2, w3, w4, w5, w6, w7, w8, w9, w10, w11, w12, w13, he⟩ := encN_agg n
  obtain ⟨x0, x1, x2, x3, x4, x5, x6, x7, x8, x9, x10, x11, x12, x13, hex⟩ := encN_agg x
  rw [he] at hsz hf hfR ⊢
  rw [hex] at hf hfR hsame
  refine ⟨rfl, ?_⟩
  (try refine And.intro (by rfl) ?_); (conv => whnf); repeat (first | (refine sI (by rfl) ?_; conv => whnf) | (refine sD (by rfl) (by rfl) ?_; conv => whnf) | (generalize hE : keepE _ _ = e0; revert hE; apply kI; (repeat (first | exact kN _ | (apply kC; with_unfolding_all rfl; rfl))); rintro rfl; conv => whnf))
  refine call_pf hm (by rfl) hsz ?_
  (try refine And.intro (by rfl) ?_); (conv => whnf); repeat (first | (refine sI (by rfl) ?_; conv => whnf) | (refine sD (by rfl) (by rfl) ?_; conv => whnf) | (generalize hE : keepE _ _ = e0; revert hE; apply kI; (repeat (first | exact kN _ | (apply kC; with_unfolding_all rfl; rfl))); rintro rfl; conv => whnf))
  by_cases hc : sizeN n 6000 ≥ 6000
  · rw [decide_eq_true hc]
    (try refine And.intro (by rfl) ?_); (conv => whnf); repeat (first | (refine sI (by rfl) ?_; conv => whnf) | (refine sD (by rfl) (by rfl) ?_; conv => whnf) | (generalize hE : keepE _ _ = e0; revert hE; apply kI; (repeat (first | exact kN _ | (apply kC; with_unfolding_all rfl; rfl))); rintro rfl; conv => whnf))
    refine call_pf hm (by rfl) hruns ?_
    (try refine And.intro (by rfl) ?_); (conv => whnf); repeat (first | (refine sI (by rfl) ?_; conv => whnf) | (refine sD (by rfl) (by rfl) ?_; conv => whnf) | (generalize hE : keepE _ _ = e0; revert hE; apply kI; (repeat (first | exact kN _ | (apply kC; with_unfolding_all rfl; rfl))); rintro rfl; conv => whnf))
    exact ⟨_, rfl, Ret.sta trivial⟩
  rw [decide_eq_false hc]
  (try refine And.intro (by rfl) ?_); (conv => whnf); repeat (first | (refine sI (by rfl) ?_; conv => whnf) | (refine sD (by rfl) (by rfl) ?_; conv => whnf) | (generalize hE : keepE _ _ = e0; revert hE; apply kI; (repeat (first | exact kN _ | (apply kC; with_unfolding_all rfl; rfl))); rintro rfl; conv => whnf))
  have rest : ∀ env : Env, True := fun _ => trivial
  clear rest
  by_cases h70 : ((encSs path).length : Int) > 70
  · rw [decide_eq_true h70]
    (try refine And.intro (by rfl) ?_); (conv => whnf); repeat (first | (refine sI (by rfl) ?_; conv => whnf) | (refine sD (by rfl) (by rfl) ?_; conv => whnf) | (generalize hE : keepE _ _ = e0; revert hE; apply kI; (repeat (first | exact kN _ | (apply kC; with_unfolding_all rfl; rfl))); rintro rfl; conv => whnf))
    refine step_ruleO (sx_slHi (h := 70) rfl rfl (by omega)) ?_
    rw [encSs_take, show path.take 70 = q by rw [hq, if_pos (by omega)]]
    (try refine And.intro (by rfl) ?_); (conv => whnf); repeat (first | (refine sI (by rfl) ?_; conv => whnf) | (refine sD (by rfl) (by rfl) ?_; conv => whnf) | (generalize hE : keepE _ _ = e0; revert hE; apply kI; (repeat (first | exact kN _ | (apply kC; with_unfolding_all rfl; rfl))); rintro rfl; conv => whnf))
    refine call_pf hm (by rfl) hroomy ?_
    (try refine And.intro (by rfl) ?_); (conv => whnf); repeat (first | (refine sI (by rfl) ?_; conv => whnf) | (refine sD (by rfl) (by rfl) ?_; conv => whnf) | (generalize hE : keepE _ _ = e0; revert hE; apply kI; (repeat (first | exact kN _ | (apply kC; with_unfolding_all rfl; rfl))); rintro rfl; conv => whnf))
    refine step_ruleDO rfl rfl (sx_slHi (h := q.length) rfl (by rw [← l1]; rfl) (by omega)) ?_
    rw [htk]
    (try refine And.intro (by rfl) ?_); (conv => whnf); repeat (first | (refine sI (by rfl) ?_; conv => whnf) | (refine sD (by rfl) (by rfl) ?_; conv => whnf) | (generalize hE : keepE _ _ = e0; revert hE; apply kI; (repeat (first | exact kN _ | (apply kC; with_unfolding_all rfl; rfl))); rintro rfl; conv => whnf))
    refine call_pfD hm (by rfl) hf ?_
    (try refine And.intro (by rfl) ?_); (conv => whnf); repeat (first | (refine sI (by rfl) ?_; conv => whnf) | (refine sD (by rfl) (by rfl) ?_; conv => whnf) | (generalize hE : keepE _ _ = e0; revert hE; apply kI; (repeat (first | exact kN _ | (apply kC; with_unfolding_all rfl; rfl))); rintro rfl; conv => whnf))
    refine call_pf hm (by rfl) hfR ?_
    (try refine And.intro (by rfl) ?_); (conv => whnf); repeat (first | (refine sI (by rfl) ?_; conv => whnf) | (refine sD (by rfl) (by rfl) ?_; conv => whnf) | (generalize hE : keepE _ _ = e0; revert hE; apply kI; (repeat (first | exact kN _ | (apply kC; with_unfolding_all rfl; rfl))); rintro rfl; conv => whnf))
    refine call_pf hm (by rfl) hsame ?_
    (try refine And.intro (by rfl) ?_); (conv => whnf); repeat (first | (refine sI (by rfl) ?_; conv => whnf) | (refine sD (by rfl) (by rfl) ?_; conv => whnf) | (generalize hE : keepE _ _ = e0; revert hE; apply kI; (repeat (first | exact kN _ | (apply kC; with_unfolding_all rfl; rfl))); rintro rfl; conv => whnf))
    rw [eqI_true (rfl : a = a)]
    (try refine And.intro (by rfl) ?_); (conv => whnf); repeat (first | (refine sI (by rfl) ?_; conv => whnf) | (refine sD (by rfl) (by rfl) ?_; conv => whnf) | (generalize hE : keepE _ _ = e0; revert hE; apply kI; (repeat (first | exact kN _ | (apply kC; with_unfolding_all rfl; rfl))); rintro rfl; conv => whnf))
    rw [show (ok == ok) = true by simp]
    (try refine And.intro (by rfl) ?_); (conv => whnf); repeat (first | (refine sI (by rfl) ?_; conv => whnf) | (refine sD (by rfl) (by rfl) ?_; conv => whnf) | (generalize hE : keepE _ _ = e0; revert hE; apply kI; (repeat (first | exact kN _ | (apply kC; with_unfolding_all rfl; rfl))); rintro rfl; conv => whnf))
    refine call_pf hm (by rfl) hintact ?_
    (try refine And.intro (by rfl) ?_); (conv => whnf); repeat (first | (refine sI (by rfl) ?_; conv => whnf) | (refine sD (by rfl) (by rfl) ?_; conv => whnf) | (generalize hE : keepE _ _ = e0; revert hE; apply kI; (repeat (first | exact kN _ | (apply kC; with_unfolding_all rfl; rfl))); rintro rfl; conv => whnf))
    refine call_pf hm (by rfl) hruns ?_
    (try refine And.intro (by rfl) ?_); (conv => whnf); repeat (first | (refine sI (by rfl) ?_; conv => whnf) | (refine sD (by rfl) (by rfl) ?_; conv => whnf) | (generalize hE : keepE _ _ = e0; revert hE; apply kI; (repeat (first | exact kN _ | (apply kC; with_unfolding_all rfl; rfl))); rintro rfl; conv => whnf))
    exact ⟨_, rfl, Ret.sta trivial⟩
  · rw [decide_eq_false h70]
    (try refine And.intro (by rfl) ?_); (conv => whnf); repeat (first | (refine sI (by rfl) ?_; conv => whnf) | (refine sD (by rfl) (by rfl) ?_; conv => whnf) | (generalize hE : keepE _ _ = e0; revert hE; apply kI; (repeat (first | exact kN _ | (apply kC; with_unfolding_all rfl; rfl))); rintro rfl; conv => whnf))
    rw [show path = q by rw [hq, if_neg (by omega)]]
    refine call_pf hm (by rfl) hroomy ?_
    (try refine And.intro (by rfl) ?_); (conv => whnf); repeat (first | (refine sI (by rfl) ?_; conv => whnf) | (refine sD (by rfl) (by rfl) ?_; conv => whnf) | (generalize hE : keepE _ _ = e0; revert hE; apply kI; (repeat (first | exact kN _ | (apply kC; with_unfolding_all rfl; rfl))); rintro rfl; conv => whnf))
    refine step_ruleDO rfl rfl (sx_slHi (h := q.length) rfl (by rw [← l1]; rfl) (by omega)) ?_
    rw [htk]
    (try refine And.intro (by rfl) ?_); (conv => whnf); repeat (first | (refine sI (by rfl) ?_; conv => whnf) | (refine sD (by rfl) (by rfl) ?_; conv => whnf) | (generalize hE : keepE _ _ = e0; revert hE; apply kI; (repeat (first | exact kN _ | (apply kC; with_unfolding_all rfl; rfl))); rintro rfl; conv => whnf))
    refine call_pfD hm (by rfl) hf ?_
    (try refine And.intro (by rfl) ?_); (conv => whnf); repeat (first | (refine sI (by rfl) ?_; conv => whnf) | (refine sD (by rfl) (by rfl) ?_; conv => whnf) | (generalize hE : keepE _ _ = e0; revert hE; apply kI; (repeat (first | exact kN _ | (apply kC; with_unfolding_all rfl; rfl))); rintro rfl; conv => whnf))
    refine call_pf hm (by rfl) hfR ?_
    (try refine And.intro (by rfl) ?_); (conv => whnf); repeat (first | (refine sI (by rfl) ?_; conv => whnf) | (refine sD (by rfl) (by rfl) ?_; conv => whnf) | (generalize hE : keepE _ _ = e0; revert hE; apply kI; (repeat (first | exact kN _ | (apply kC; with_unfolding_all rfl; rfl))); rintro rfl; conv => whnf))
    refine call_pf hm (by rfl) hsame ?_
    (try refine And.intro (by rfl) ?_); (conv => whnf); repeat (first | (refine sI (by rfl) ?_; conv => whnf) | (refine sD (by rfl) (by rfl) ?_; conv => whnf) | (generalize hE : keepE _ _ = e0; revert hE; apply kI; (repeat (first | exact kN _ | (apply kC; with_unfolding_all rfl; rfl))); rintro rfl; conv => whnf))
    rw [eqI_true (rfl : a = a)]
    (try refine And.intro (by rfl) ?_); (conv => whnf); repeat (first | (refine sI (by rfl) ?_; conv => whnf) | (refine sD (by rfl) (by rfl) ?_; conv => whnf) | (generalize hE : keepE _ _ = e0; revert hE; apply kI; (repeat (first | exact kN _ | (apply kC; with_unfolding_all rfl; rfl))); rintro rfl; conv => whnf))
    rw [show (ok == ok) = true by simp]
    (try refine And.intro (by rfl) ?_); (conv => whnf); repeat (first | (refine sI (by rfl) ?_; conv => whnf) | (refine sD (by rfl) (by rfl) ?_; conv => whnf) | (generalize hE : keepE _ _ = e0; revert hE; apply kI; (repeat (first | exact kN _ | (apply kC; with_unfolding_all rfl; rfl))); rintro rfl; conv => whnf))
    refine call_pf hm (by rfl) hintact ?_
    (try refine And.intro (by rfl) ?_); (conv => whnf); repeat (first | (refine sI (by rfl) ?_; conv => whnf) | (refine sD (by rfl) (by rfl) ?_; conv => whnf) | (generalize hE : keepE _ _ = e0; revert hE; apply kI; (repeat (first | exact kN _ | (apply kC; with_unfolding_all rfl; rfl))); rintro rfl; conv => whnf))
    refine call_pf hm (by rfl) hruns ?_
    (try refine And.intro (by rfl) ?_); (conv => whnf); repeat (first | (refine sI (by rfl) ?_; conv => whnf) | (refine sD (by rfl) (by rfl) ?_; conv => whnf) | (generalize hE : keepE _ _ = e0; revert hE; apply kI; (repeat (first | exact kN _ | (apply kC; with_unfolding_all rfl; rfl))); rintro rfl; conv => whnf))
    exact ⟨_, rfl, Ret.sta trivial⟩
end
end Go.Dn

namespace Go.Dn
open Go Go.RowKit

mutual
/-- how many values and letters -/
def bulkA : AV → Nat
  | .str s => s.length + 1
  | .sl _ _ xs => bulkAs xs + 1
  | .agg cs => bulkAs cs + 1
  | _ => 1
def bulkAs : List AV → Nat
  | [] => 0
  | x :: r => bulkA x + bulkAs r
end

theorem bulkAs_app (a b : List AV) : bulkAs (a ++ b) = bulkAs a + bulkAs b := by
  induction a with
  | nil => simp [bulkAs]
  | cons x r ih => simp only [List.cons_append, bulkAs, ih]; omega

/-- a bulk of data -/
structure IsUb {H : Type} (ub : DataW H → Nat) (ubAll : List (DataW H) → Nat) : Prop where
  lit : ∀ l, 1 ≤ ub (.lit l)
  str : ∀ s, s.length + 1 ≤ ub (.lit (.string s))
  nil : 1 ≤ ub .nil
  slice : ∀ a b, ub (.slice a b) = ubAll a + ubAll b + 1
  agg : ∀ a, ub (.agg a) = ubAll a + 1
  none : ubAll [] = 0
  cons : ∀ d r, ubAll (d :: r) = ub d + ubAll r

def sb (P : Program) (t : TypeId) : Nat := match P.underlying t with
  | some (.struct _) => 1
  | _ => 0

/-- cells of a type that has no pointers, maps, functions, interfaces in it, as pure data -/
def AVB (P : Program) : Nat → TypeId → List AV → Prop
  | 0, _, _ => False
  | d + 1, t, xs => match P.underlying t with
    | some .bool => ∃ b, xs = [.bool b]
    | some (.int k) => ∃ n, xs = [.int k n] ∧ (Lit.int k n).wf = true
    | some .string => ∃ s, xs = [.str s] ∧ s.length ≤ maxLen
    | some (.slice e) => ∃ ys, xs = [.sl (P.cellsOf e) stat ys] ∧ ∀ y ∈ ys, AVB P d e y.cells ∧ (isAggP P e = some true → ∃ cs, y = .agg cs) ∧ (isAggP P e = some false → y.cells = [y])
    | some (.struct fs) => xs.length = P.cellsOf t ∧ ∀ f ∈ fs.toList, AVB P d f.type ((xs.drop f.offset).take (P.cellsOf f.type))
    | _ => False

section
variable {P : Program} {W : World} {H : Type} {enc : TypeId × Value → H}

/-- one element -/
theorem elem_avb {g : Bool} {e : TypeId} {d : Nat} (hg : isAggP P e = some g) {cs : List Value} {xs : List AV} (hr : Rl St.init (G0 W) W xs cs) (ht : AVB P d e xs) :
    ∃ y v, y.cells = xs ∧ v.cells.toList = cs ∧ Rv St.init (G0 W) W y v ∧ (g = true → ∃ zs, y = .agg zs) ∧ (g = false → y.cells = [y]) := by
  cases g with
  | true => exact ⟨.agg xs, .agg ⟨cs⟩, rfl, rfl, by simp only [Rv]; exact ⟨_, rfl, hr⟩, fun _ => ⟨_, rfl⟩, fun h => by cases h⟩
  | false =>
    have hone : ∃ x, xs = [x] ∧ x.cells = [x] ∧ ∀ zs, x ≠ .agg zs := by
      cases d with
      | zero => exact ht.elim
      | succ d =>
        unfold AVB at ht
        unfold isAggP at hg
        split at ht
        · obtain ⟨b, rfl⟩ := ht; exact ⟨_, rfl, rfl, fun zs h => by cases h⟩
        · obtain ⟨n, rfl, _⟩ := ht; exact ⟨_, rfl, rfl, fun zs h => by cases h⟩
        · obtain ⟨s, rfl, _⟩ := ht; exact ⟨_, rfl, rfl, fun zs h => by cases h⟩
        · obtain ⟨ys, rfl, _⟩ := ht; exact ⟨_, rfl, rfl, fun zs h => by cases h⟩
        · rename_i fs hu; rw [hu] at hg; cases hg
        · exact ht.elim
    obtain ⟨x, rfl, hx, hna⟩ := hone
    simp only [Rl] at hr
    obtain ⟨v, r, rfl, hv, rfl⟩ := hr
    refine ⟨x, v, hx, ?_, hv, (fun h => by cases h), fun _ => hx⟩
    rw [Value.cells_of_not_agg (hv.not_agg hna)]

theorem fields_avb {ub : DataW H → Nat} {ubAll : List (DataW H) → Nat} (hub : IsUb ub ubAll) {d : Nat} : ∀ (fs : List Field) (ds : List (DataW H)) (n m : Nat) (cs : List Value), fieldsAt P fs n = some m → cs.length = m → ds.length = fs.length →
    (∀ (i : Nat) (f : Field), fs[i]? = some f → ∃ (dd : DataW H) (xs : List AV), ds[i]? = some dd ∧ Rl St.init (G0 W) W xs ((cs.drop f.offset).take (P.cellsOf f.type)) ∧ AVB P d f.type xs ∧ bulkAs xs ≤ ub dd) →
    n ≤ m ∧ (∀ f ∈ fs, n ≤ f.offset) ∧ ∃ xs, Rl St.init (G0 W) W xs (cs.drop n) ∧ (∀ f ∈ fs, AVB P d f.type ((xs.drop (f.offset - n)).take (P.cellsOf f.type))) ∧ bulkAs xs ≤ ubAll ds
  | [], ds, n, m, cs, h, hl, _, _ => by
    simp only [fieldsAt, Option.some.injEq] at h
    subst h
    refine ⟨Nat.le_refl _, fun f hf => (by cases hf), [], ?_, fun f hf => (by cases hf), by simp [bulkAs]⟩
    rw [List.drop_of_length_le (by omega)]
    exact Rl.nil
  | f :: r, [], n, m, cs, h, hl, hd, hf => by simp at hd
  | f :: r, d0 :: ds, n, m, cs, h, hl, hd, hf => by
    simp only [fieldsAt] at h
    split at h
    · rename_i ho
      obtain ⟨h1, h2, xr, h3, h4, h5⟩ := fields_avb hub r ds _ m cs h hl (by simpa using hd) fun i g hg => by simpa using hf (i + 1) g (by simpa using hg)
      obtain ⟨dd, xf, e0, g1, g2, g3⟩ := hf 0 f rfl
      simp only [List.getElem?_cons_zero, Option.some.injEq] at e0
      subst e0
      rw [ho] at g1
      have hxf : xf.length = P.cellsOf f.type := by
        have := g1.length
        rw [List.length_take, List.length_drop] at this
        omega
      refine ⟨by omega, fun g hg => ?_, xf ++ xr, ?_, fun g hg => ?_, by rw [bulkAs_app, hub.cons]; omega⟩
      · rcases List.mem_cons.1 hg with rfl | hg
        · omega
        · have := h2 g hg; omega
      · have := g1.append h3
        rwa [← List.drop_drop, List.take_append_drop] at this
      · rcases List.mem_cons.1 hg with rfl | hg
        · rw [ho, Nat.sub_self, List.drop_zero, List.take_append_of_le_length (by omega), List.take_of_length_le (by omega)]
          exact g2
        · have hgo := h2 g hg
          have := h4 g hg
          rw [List.drop_append, List.drop_of_length_le (by omega), List.nil_append, hxf, show g.offset - n - P.cellsOf f.type = g.offset - (n + P.cellsOf f.type) by omega]
          exact this
    · cases h

theorem trod_avb {ub : DataW H → Nat} {ubAll : List (DataW H) → Nat} (hub : IsUb ub ubAll) {L : List TypeId} (hL : okTypes P L = true) : ∀ (fuel : Nat) (t : TypeId) (cs : List Value) (x : DataW H × List MemPlace), t ∈ L → DataW.trod enc P W 0 (fun _ => true) true fuel t cs = some x →
    ∃ xs, Rl St.init (G0 W) W xs cs ∧ AVB P fuel t xs ∧ bulkAs xs + sb P t ≤ ub x.1
  | 0, _, _, _, _, h => by simp [DataW.trod] at h
  | fuel + 1, t, cs, x, ht, h => by
    have hok := List.all_eq_true.1 hL t ht
    unfold okType at hok
    unfold AVB
    have hsb : ∀ {td}, P.underlying t = some td → sb P t = match td with | .struct _ => 1 | _ => 0 := fun {td} h => by unfold sb; rw [h]; cases td <;> rfl
    cases hu : P.underlying t with
    | none => rw [hu] at hok; cases hok
    | some td =>
    rw [hu] at hok
    cases td <;> simp only [Bool.false_eq_true] at hok
    case bool =>
      obtain ⟨b, rfl, rfl⟩ := DataW.trod_bool hu h
      exact ⟨[.bool b], Rl.cons (by simp only [Rv]) Rl.nil, ⟨b, rfl⟩, by rw [hsb hu]; have := hub.lit (.bool b); simp only [bulkAs, bulkA]; omega⟩
    case int k =>
      obtain ⟨n, rfl, rfl, hwf⟩ := DataW.trod_int hu h
      exact ⟨[.int k n], Rl.cons (by simp only [Rv]) Rl.nil, ⟨n, rfl, hwf⟩, by rw [hsb hu]; have := hub.lit (.int k n); simp only [bulkAs, bulkA]; omega⟩
    case string =>
      obtain ⟨s, rfl, rfl, hs⟩ := DataW.trod_string hu h
      exact ⟨[.str s.data.toList], Rl.cons (by simp only [Rv]) Rl.nil, ⟨_, rfl, by simpa using hs⟩, by rw [hsb hu]; have := hub.str s.data.toList; simp only [bulkAs, bulkA]; omega⟩
    case slice e =>
      simp only [Bool.and_eq_true] at hok
      have heL := any_mem hok.1
      have hc0 := blt_lt hok.2
      rcases DataW.trod_slice hu h with ⟨rfl, rfl⟩ | ⟨a, len, cap, elems, rest, n, hn, rfl, hx, _, hl, hm, hlen, hel, hsp, _⟩
      · refine ⟨[.sl (P.cellsOf e) stat []], Rl.cons ?_ Rl.nil, ⟨[], rfl, fun y hy => by cases hy⟩, by rw [hsb hu]; have := hub.nil; simp only [bulkAs, bulkA]; omega⟩
        simp only [Rv]
        exact ⟨none, 0, 0, rfl, ⟨rfl, Nat.le_refl _, by simp [stat], (fun c hc => by cases hc), (fun _ => rfl), (fun p hp => by cases hp)⟩, (fun _ p hp => by cases hp)⟩
      · cases hn
        obtain ⟨hrl, hrest⟩ := hsp rfl
        subst hx
        -- every element's cells
        have cellsAt : ∀ i, i < cap → ∃ cs' y, W.cells? 0 (a.add (i * P.cellsOf e)) (P.cellsOf e) = some cs' ∧ DataW.trod enc P W 0 (fun _ => true) true fuel e cs' = some y := fun i hi => by
          have : ∃ y, (W.cells? 0 (a.add (i * P.cellsOf e)) (P.cellsOf e)).bind (DataW.trod enc P W 0 (fun _ => true) true fuel e) = some y := by
            by_cases h' : i < len
            · exact ⟨_, (hel i h').trans (List.getElem?_eq_getElem (by omega))⟩
            · have := hrest (i - len) (by omega)
              rw [show len + (i - len) = i by omega] at this
              exact ⟨_, this.trans (List.getElem?_eq_getElem (by omega))⟩
          obtain ⟨y, hy⟩ := this
          obtain ⟨cs', e1, e2⟩ := Option.bind_eq_some_iff.1 hy
          exact ⟨cs', y, e1, e2⟩
        have hge : ∃ g, isAggP P e = some g := by
          have := List.all_eq_true.1 hL e heL
          unfold okType at this
          unfold isAggP
          split at this <;> first | (cases this; done) | skip
          all_goals rename_i hh; rw [hh]; exact ⟨_, rfl⟩
        obtain ⟨g, hg⟩ := hge
        have hspot : 0 < cap → a.spot = none := fun hc => by
          obtain ⟨cs', y, e1, _⟩ := cellsAt 0 hc
          obtain ⟨l1, l2⟩ := cells_get e1
          have := l2 0 hc0
          rw [Nat.zero_mul] at this
          have ha : (a.add 0).add 0 = a := by simp [Addr.add]
          rw [ha] at this
          cases hs : a.spot with
          | none => rfl
          | some s =>
            exfalso
            have h0 : cs'[0]? = some cs'[0] := List.getElem?_eq_getElem (by omega)
            rw [h0] at this
            unfold World.cell? at this
            split at this
            · simp [hs] at this
            · cases this
        have cellAt : ∀ i, i < cap → ∃ cs', cs'.length = P.cellsOf e ∧ (∀ j, j < P.cellsOf e → W.cell? ⟨a.block, a.off + i * P.cellsOf e + j, none⟩ = cs'[j]?) ∧ ∃ y, DataW.trod enc P W 0 (fun _ => true) true fuel e cs' = some y := fun i hi => by
          obtain ⟨cs', y, e1, e2⟩ := cellsAt i hi
          obtain ⟨l1, l2⟩ := cells_get e1
          refine ⟨cs', l1, fun j hj => ?_, y, e2⟩
          rw [← l2 j hj]
          have hs := hspot (by omega)
          obtain ⟨ab, ao, asp⟩ := a
          simp only at hs
          subst hs
          rw [add_none, add_none]
        obtain ⟨ys, hy1, hy2⟩ := seq_ex (n := len) (R := fun i y => (∃ d, elems[i]? = some d ∧ bulkA y ≤ ub d.1) ∧ AVB P fuel e y.cells ∧ ((isAggP P e = some true → ∃ zs, y = .agg zs) ∧ (isAggP P e = some false → y.cells = [y])) ∧ ∃ v, Rv St.init (G0 W) W y v ∧ v.cells.size = P.cellsOf e ∧ ∀ j, j < P.cellsOf e → W.cell? ⟨a.block, a.off + i * P.cellsOf e + j, none⟩ = v.cells[j]?) fun i hi => by
          have hq := (hel i hi).trans (List.getElem?_eq_getElem (by omega))
          obtain ⟨cs0, e1, e2⟩ := Option.bind_eq_some_iff.1 hq
          obtain ⟨cs', l1, l2, _⟩ := cellAt i (by omega)
          have hcs : cs' = cs0 := by
            obtain ⟨m1, m2⟩ := cells_get e1
            apply List.ext_getElem? 
            intro j
            by_cases hj : j < P.cellsOf e
            · rw [← l2 j hj, ← m2 j hj]
              have hs := hspot (by omega)
              obtain ⟨ab, ao, asp⟩ := a
              simp only at hs
              subst hs
              rw [add_none, add_none]
            · rw [List.getElem?_eq_none (by omega), List.getElem?_eq_none (by omega)]
          subst hcs
          obtain ⟨xs, r1, r2, r3⟩ := trod_avb hub hL fuel e cs' _ heL e2
          obtain ⟨z, v, z1, z2, z3, z4, z5⟩ := elem_avb hg r1 r2
          refine ⟨z, ⟨_, List.getElem?_eq_getElem (by omega), ?_⟩, by rw [z1]; exact r2, ⟨fun h' => z4 (by rw [hg] at h'; cases h'; rfl), fun h' => z5 (by rw [hg] at h'; cases h'; rfl)⟩, v, z3, ?_, fun j hj => ?_⟩
          · cases g with
            | true =>
              obtain ⟨zs, rfl⟩ := z4 rfl
              have hs1 : sb P e = 1 := by
                unfold isAggP at hg
                unfold sb
                split at hg <;> first | (cases hg; done) | skip
                all_goals (rename_i hh; rw [hh])
                all_goals (have hqq := List.all_eq_true.1 hL e heL; unfold okType at hqq; rw [hh] at hqq; cases hqq)
              rw [← z1] at r3
              simp only [AV.cells] at r3
              simp only [bulkA]
              omega
            | false =>
              have := z5 rfl
              rw [z1] at this
              rw [this] at r3
              simp only [bulkAs] at r3
              omega
          · rw [← l1, ← z2]; simp
          · rw [l2 j hj, ← z2]; simp
        refine ⟨[.sl (P.cellsOf e) stat ys], Rl.cons ?_ Rl.nil, ⟨ys, rfl, fun y hy => ?_⟩, ?_⟩
        · simp only [Rv]
          refine ⟨some a, len, cap, rfl, ⟨hy1.symm, hl, by simp [stat], (fun c hc => by cases hc), (fun hc => by cases hc), fun p hp hc => ?_⟩, fun _ p hp => ?_⟩
          · cases hp
            obtain ⟨cs', l1, l2, _⟩ := cellAt (cap - 1) (by omega)
            have hlast := l2 (P.cellsOf e - 1) (by omega)
            rw [List.getElem?_eq_getElem (by omega)] at hlast
            unfold World.cell? at hlast
            split at hlast
            · rename_i c ty fr hb
              simp only [Option.isSome_none, Bool.false_eq_true, if_false] at hlast
              have hlt := (Array.getElem?_eq_some_iff.1 hlast).1
              refine ⟨hc0, hspot hc, ⟨ty, c.size, by simp [World.shape?, hb], ?_⟩, ?_⟩
              · have : cap * P.cellsOf e = (cap - 1) * P.cellsOf e + P.cellsOf e := by
                  rw [← Nat.succ_mul]; congr 1; omega
                omega
              · rw [rd_none rfl]
                exact (Array.getElem?_eq_some_iff.1 hb).1
            · cases hlast
          · cases hp
            exact Rat_of_get fun i y hy => (hy2 i y hy).2.2.2
        · obtain ⟨i, hi⟩ := List.getElem?_of_mem hy
          exact ⟨(hy2 i y hi).2.1, (hy2 i y hi).2.2.1⟩
        · have hle : bulkAs ys ≤ ubAll (elems.map (·.1)) := by
            have key : ∀ (ys : List AV) (ds : List (DataW H × List MemPlace)), ys.length = ds.length → (∀ (i : Nat) (y : AV), ys[i]? = some y → ∃ d : DataW H × List MemPlace, ds[i]? = some d ∧ bulkA y ≤ ub d.1) → bulkAs ys ≤ ubAll (ds.map (·.1)) := by
              intro ys
              induction ys with
              | nil => intro ds _ _; simp [bulkAs]
              | cons y r ih =>
                intro ds hl hh
                cases ds with
                | nil => simp at hl
                | cons d q =>
                  obtain ⟨d', e1, e2⟩ := hh 0 y rfl
                  simp only [List.getElem?_cons_zero, Option.some.injEq] at e1
                  subst e1
                  have := ih q (by simpa using hl) fun i z hz => by simpa using hh (i + 1) z (by simpa using hz)
                  simp only [bulkAs, List.map_cons, hub.cons]
                  omega
            exact key ys elems (by rw [hy1, hlen]) fun i y hy => (hy2 i y hy).1
          rw [hsb hu]
          simp only [bulkAs, bulkA, hub.slice]
          omega
    case struct fs =>
      simp only [Bool.and_eq_true, decide_eq_true_eq] at hok
      obtain ⟨xs, n, hn, hx, hlen, hxl, hfs⟩ := DataW.trod_struct hu h
      cases hn
      subst hx
      obtain ⟨_, _, zs, z1, z2, z3⟩ := fields_avb (P := P) (W := W) (d := fuel) hub fs.toList (xs.map (·.1)) 0 _ cs hok.2 hlen (by simp [hxl]) fun i f hi => by
        have hi' : fs[i]? = some f := by simpa using hi
        have := hfs i f hi'
        have hlt : i < xs.length := by
          rw [hxl]
          exact (Array.getElem?_eq_some_iff.1 hi').1
        rw [List.getElem?_eq_getElem hlt] at this
        have hmem : f ∈ fs.toList := List.mem_of_getElem? hi
        obtain ⟨ys, r1, r2, r3⟩ := trod_avb hub hL fuel f.type _ _ (any_mem (List.all_eq_true.1 hok.1 f hmem)) this
        exact ⟨xs[i].1, ys, by simp [hlt], r1, r2, by omega⟩
      rw [List.drop_zero] at z1
      refine ⟨zs, z1, ⟨by rw [← hlen, z1.length], z2⟩, ?_⟩
      rw [hsb hu]
      simp only [hub.agg]
      omega
end
end Go.Dn

namespace Go.Proofs.YthjebaophnkpbaaGreatDoor
open Go.Dn

theorem c_int : Tryz.prog.cellsOf 3 = 1 := by kernel_rfl
theorem c_str : Tryz.prog.cellsOf 9 = 1 := by kernel_rfl
theorem c_strs : Tryz.prog.cellsOf 22 = 1 := by kernel_rfl
theorem c_trees : Tryz.prog.cellsOf 23 = 1 := by kernel_rfl
theorem c_tree : Tryz.prog.cellsOf 25 = 4 := by kernel_rfl
theorem c_nodes : Tryz.prog.cellsOf 26 = 1 := by kernel_rfl
theorem c_node : Tryz.prog.cellsOf 28 = 14 := by kernel_rfl
theorem c_step : Tryz.prog.cellsOf 41 = 2 := by kernel_rfl
theorem a_str : isAggP Tryz.prog 9 = some false := by kernel_rfl
theorem a_tree : isAggP Tryz.prog 25 = some true := by kernel_rfl
theorem a_node : isAggP Tryz.prog 28 = some true := by kernel_rfl
theorem a_step : isAggP Tryz.prog 41 = some true := by kernel_rfl
theorem u_int : Tryz.prog.underlying 3 = some (.int .i64) := by kernel_rfl
theorem u_str : Tryz.prog.underlying 9 = some .string := by kernel_rfl
theorem u_strs : Tryz.prog.underlying 22 = some (.slice 9) := by kernel_rfl
theorem u_trees : Tryz.prog.underlying 23 = some (.slice 25) := by kernel_rfl
theorem u_nodes : Tryz.prog.underlying 26 = some (.slice 28) := by kernel_rfl
theorem u_steps : Tryz.prog.underlying 48 = some (.slice 41) := by kernel_rfl

theorem av_int {d : Nat} {x : AV} (h : AVB Tryz.prog d 3 [x]) : ∃ n, x = .int .i64 n := by
  cases d with
  | zero => exact h.elim
  | succ d =>
    unfold AVB at h
    rw [u_int] at h
    obtain ⟨n, e, _⟩ := h
    cases e
    exact ⟨n, rfl⟩

theorem av_str {d : Nat} {x : AV} (h : AVB Tryz.prog d 9 [x]) : ∃ s, x = .str s := by
  cases d with
  | zero => exact h.elim
  | succ d =>
    unfold AVB at h
    rw [u_str] at h
    obtain ⟨n, e, _⟩ := h
    cases e
    exact ⟨n, rfl⟩

theorem av_strs {d : Nat} {x : AV} (h : AVB Tryz.prog d 22 [x]) : ∃ l, x = .sl 1 stat (strs l) := by
  cases d with
  | zero => exact h.elim
  | succ d =>
    unfold AVB at h
    rw [u_strs] at h
    obtain ⟨ys, e, h2⟩ := h
    cases e
    rw [c_str]
    have : ∃ l, ys = strs l := by
      induction ys with
      | nil => exact ⟨[], rfl⟩
      | cons y r ih =>
        obtain ⟨l, hl⟩ := ih fun z hz => h2 z (by simp [hz])
        obtain ⟨k1, _, k3⟩ := h2 y (by simp)
        rw [k3 a_str] at k1
        obtain ⟨s, rfl⟩ := av_str k1
        exact ⟨s :: l, by rw [hl]; rfl⟩
    obtain ⟨l, rfl⟩ := this
    exact ⟨l, rfl⟩

theorem list_trees {ys : List AV} (h : ∀ y ∈ ys, ∃ t : PT, y = encT t) : ∃ l, ys = encTs l := by
  induction ys with
  | nil => exact ⟨[], rfl⟩
  | cons y r ih =>
    obtain ⟨l, h1⟩ := ih fun z hz => h z (by simp [hz])
    obtain ⟨t, h3⟩ := h y (by simp)
    exact ⟨t :: l, by rw [h1, h3]; rfl⟩
theorem list_nodes {ys : List AV} (h : ∀ y ∈ ys, ∃ t : PN, y = encN t) : ∃ l, ys = encNs l := by
  induction ys with
  | nil => exact ⟨[], rfl⟩
  | cons y r ih =>
    obtain ⟨l, h1⟩ := ih fun z hz => h z (by simp [hz])
    obtain ⟨t, h3⟩ := h y (by simp)
    exact ⟨t :: l, by rw [h1, h3]; rfl⟩
theorem list_steps {ys : List AV} (h : ∀ y ∈ ys, ∃ t : PS, y = encS t) : ∃ l, ys = encSs l := by
  induction ys with
  | nil => exact ⟨[], rfl⟩
  | cons y r ih =>
    obtain ⟨l, h1⟩ := ih fun z hz => h z (by simp [hz])
    obtain ⟨t, h3⟩ := h y (by simp)
    exact ⟨t :: l, by rw [h1, h3]; rfl⟩

theorem four {α : Type} {l : List α} (h : l.length = 4) : ∃ a b c d, l = [a, b, c, d] := by
  match l, h with
  | [a, b, c, d], _ => exact ⟨a, b, c, d, rfl⟩
theorem two {α : Type} {l : List α} (h : l.length = 2) : ∃ a b, l = [a, b] := by
  match l, h with
  | [a, b], _ => exact ⟨a, b, rfl⟩
theorem fourteen {α : Type} {l : List α} (h : l.length = 14) : ∃ a0 a1 a2 a3 a4 a5 a6 a7 a8 a9 a10 a11 a12 a13, l = [a0, a1, a2, a3, a4, a5, a6, a7, a8, a9, a10, a11, a12, a13] := by
  match l, h with
  | [a0, a1, a2, a3, a4, a5, a6, a7, a8, a9, a10, a11, a12, a13], _ => exact ⟨a0, a1, a2, a3, a4, a5, a6, a7, a8, a9, a10, a11, a12, a13, rfl⟩

set_option maxRecDepth 100000 in
theorem av_step {d : Nat} {xs : List AV} (h : AVB Tryz.prog d 41 xs) : ∃ t : PS, .agg xs = encS t := by
  cases d with
  | zero => exact h.elim
  | succ d =>
    unfold AVB at h
    rw [Tryz.underlying41] at h
    obtain ⟨hl, h⟩ := h
    rw [c_step] at hl
    obtain ⟨x0, x1, rfl⟩ := two hl
    simp only [List.forall_mem_cons] at h
    simp only [c_int, c_str] at h
    obtain ⟨f0, f1, _⟩ := h
    obtain ⟨s, rfl⟩ := av_str f0
    obtain ⟨k, rfl⟩ := av_int f1
    exact ⟨⟨s, k⟩, rfl⟩

set_option maxRecDepth 100000 in
theorem av_tree : ∀ {d : Nat} {xs : List AV}, AVB Tryz.prog d 25 xs → ∃ t : PT, .agg xs = encT t := by
  intro d
  induction d using Nat.strongRecOn with
  | _ d ih =>
  intro xs h
  cases d with
  | zero => exact h.elim
  | succ d =>
    unfold AVB at h
    rw [Tryz.underlying25] at h
    obtain ⟨hl, h⟩ := h
    rw [c_tree] at hl
    obtain ⟨x0, x1, x2, x3, rfl⟩ := four hl
    simp only [List.forall_mem_cons] at h
    simp only [c_int, c_str, c_strs, c_trees] at h
    obtain ⟨f0, f1, f2, f3, _⟩ := h
    obtain ⟨k, rfl⟩ := av_int f0
    obtain ⟨s, rfl⟩ := av_str f1
    obtain ⟨keys, rfl⟩ := av_strs f2
    cases d with
    | zero => exact f3.elim
    | succ d =>
      unfold AVB at f3
      rw [u_trees] at f3
      obtain ⟨ys, e, g2⟩ := f3
      cases e
      obtain ⟨kids, rfl⟩ := list_trees (ys := ys) fun y hy => by
        obtain ⟨k1, k2, _⟩ := g2 y hy
        obtain ⟨cs, rfl⟩ := k2 a_tree
        exact ih d (by omega) k1
      refine ⟨.mk k s keys kids, ?_⟩
      simp only [encT]
      rw [c_tree]

set_option maxRecDepth 100000 in
theorem av_node : ∀ {d : Nat} {xs : List AV}, AVB Tryz.prog d 28 xs → ∃ t : PN, .agg xs = encN t := by
  intro d
  induction d using Nat.strongRecOn with
  | _ d ih =>
  intro xs h
  cases d with
  | zero => exact h.elim
  | succ d =>
    unfold AVB at h
    rw [Tryz.underlying28] at h
    obtain ⟨hl, h⟩ := h
    rw [c_node] at hl
    obtain ⟨a0, a1, a2, a3, a4, a5, a6, a7, a8, a9, a10, a11, a12, a13, rfl⟩ := fourteen hl
    simp only [List.forall_mem_cons] at h
    simp only [c_int, c_str, c_strs, c_tree, c_nodes] at h
    obtain ⟨f0, f1, f2, f3, f4, f8, f9, f10, f11, f12, f13, _⟩ := h
    obtain ⟨k, rfl⟩ := av_int f0
    obtain ⟨a, rfl⟩ := av_str f1
    obtain ⟨b, rfl⟩ := av_str f2
    obtain ⟨c, rfl⟩ := av_str f3
    obtain ⟨leaf, hlf⟩ := av_tree f4
    obtain ⟨h8, rfl⟩ := av_str f8
    obtain ⟨seps, rfl⟩ := av_strs f10
    obtain ⟨t, rfl⟩ := av_str f11
    obtain ⟨e, rfl⟩ := av_str f12
    obtain ⟨f, rfl⟩ := av_int f13
    cases d with
    | zero => exact f9.elim
    | succ d =>
      unfold AVB at f9
      rw [u_nodes] at f9
      obtain ⟨ys, e9, g2⟩ := f9
      cases e9
      obtain ⟨kids, rfl⟩ := list_nodes (ys := ys) fun y hy => by
        obtain ⟨k1, k2, _⟩ := g2 y hy
        obtain ⟨cs, rfl⟩ := k2 a_node
        exact ih d (by omega) k1
      refine ⟨.mk k a b c leaf h8 kids seps t e f, ?_⟩
      rw [encT_eq] at hlf
      simp only [List.drop_succ_cons, List.drop_zero, List.take_succ_cons, List.take_zero, AV.agg.injEq, List.cons.injEq, and_true] at hlf
      obtain ⟨rfl, rfl, rfl, rfl⟩ := hlf
      simp only [encN]
      rw [c_node]

set_option maxRecDepth 100000 in
theorem av_steps {d : Nat} {xs : List AV} (h : AVB Tryz.prog d 48 xs) : ∃ l, xs = [.sl 2 stat (encSs l)] := by
  cases d with
  | zero => exact h.elim
  | succ d =>
    unfold AVB at h
    rw [u_steps] at h
    obtain ⟨ys, rfl, g⟩ := h
    rw [c_step]
    obtain ⟨l, rfl⟩ := list_steps (ys := ys) fun y hy => by
      obtain ⟨k1, k2, _⟩ := g y hy
      obtain ⟨cs, rfl⟩ := k2 a_step
      exact av_step k1
    exact ⟨l, rfl⟩

/-! ### how great -/
theorem bulk_strs (l : List (List UInt8)) : bulkAs (strs l) = sumLen l + l.length := by
  induction l with
  | nil => rfl
  | cons a r ih =>
    have : strs (a :: r) = .str a :: strs r := rfl
    rw [this]
    simp only [bulkAs, bulkA, sumLen, List.length_cons, ih]; omega

mutual
theorem bulk_T : ∀ t : PT, bulkA (encT t) ≤ 1048576 → t.ok
  | .mk k s keys kids, h => by
    simp only [encT, bulkA, bulkAs] at h
    have h1 := bulk_strs keys
    have h2 := bulk_Ts kids (by omega)
    simp only [PT.ok]
    exact ⟨by omega, by omega, h2.1⟩
theorem bulk_Ts : ∀ l : List PT, bulkAs (encTs l) ≤ 1048576 → PT.oks l ∧ l.length ≤ bulkAs (encTs l)
  | [], _ => ⟨trivial, Nat.zero_le _⟩
  | t :: r, h => by
    simp only [encTs, bulkAs] at h
    have h1 := bulk_T t (by omega)
    have h2 := bulk_Ts r (by omega)
    have : 1 ≤ bulkA (encT t) := by cases t; simp only [encT, bulkA]; omega
    simp only [PT.oks, encTs, bulkAs, List.length_cons]
    exact ⟨⟨h1, h2.1⟩, by omega⟩
end

mutual
theorem bulk_N : ∀ t : PN, bulkA (encN t) ≤ 1048576 → t.ok ∧ t.tb ≤ bulkA (encN t)
  | .mk k a b c leaf h kids seps t e f, hb => by
    have hl : bulkA (encT leaf) ≤ 1048576 := by
      rw [encT_eq]
      simp only [encN, bulkA, bulkAs] at hb ⊢
      omega
    simp only [encN, bulkA, bulkAs] at hb ⊢
    have h1 := bulk_strs seps
    have h2 := bulk_Ns kids (by omega)
    simp only [PN.ok, PN.tb]
    exact ⟨⟨bulk_T leaf hl, by omega, by omega, h2.1⟩, by omega⟩
theorem bulk_Ns : ∀ l : List PN, bulkAs (encNs l) ≤ 1048576 → PN.oks l ∧ l.length ≤ bulkAs (encNs l) ∧ PN.tbs l ≤ bulkAs (encNs l)
  | [], _ => ⟨trivial, Nat.zero_le _, Nat.zero_le _⟩
  | t :: r, h => by
    simp only [encNs, bulkAs] at h
    have h1 := bulk_N t (by omega)
    have h2 := bulk_Ns r (by omega)
    have : 1 ≤ bulkA (encN t) := by cases t; simp only [encN, bulkA]; omega
    simp only [PN.oks, encNs, bulkAs, List.length_cons, PN.tbs]
    exact ⟨⟨h1.1, h2.1⟩, by omega, by omega⟩
end

theorem bulk_Ss (l : List PS) : l.length ≤ bulkAs (encSs l) := by
  induction l with
  | nil => exact Nat.zero_le _
  | cons s r ih =>
    have : encSs (s :: r) = encS s :: encSs r := rfl
    rw [this]
    simp only [bulkAs, List.length_cons]
    have : 1 ≤ bulkA (encS s) := by simp only [encS, bulkA]; omega
    omega
end Go.Proofs.YthjebaophnkpbaaGreatDoor

namespace Go.Proofs.C1
open Go Go.Dn
set_option maxRecDepth 100000
theorem F3_ok : prepF Tryz.prog ⟨[1, 2, 6, 9, 12, 108], [(0, []), (1, [1]), (2, [1, 2, 3]), (3, [1, 3, 4, 5]), (4, [1, 55]), (5, [0]), (6, [1, 6, 7, 8]), (7, [1, 6, 7, 8, 9, 10, 11]), (8, [1, 6, 7, 8, 9, 10, 11, 14]), (9, [1, 107]), (10, [0]), (11, [1, 109]), (12, [1, 121, 122, 124]), (13, [1]), (14, [1]), (15, [1]), (16, [1, 3]), (17, [0])], [(14, [(some 1), (some 1), (some 1), (some 1), none, none, none, (some 1), (some 1), none, none, none, none, none, none, none, none, none, none]), (12, [(some 1), (some 1), none, none, none, (some 1), (some 1), none, none, none, none, none, none, none, none, none, none, none]), (11, [none, (some 108), (some 108), (some 108)])]⟩ Tryz.f3 = some F3 := by kernel_rfl
theorem F3_fn : FnOK2 Tryz.prog 3 (.pl F3) := .pl Tryz.func3 (by kernel_rfl) F3_ok
theorem F5_ok : prepF Tryz.prog ⟨[2, 6, 9], [(0, [1, 2]), (1, [1, 2, 14]), (2, [4]), (3, [1, 2, 18]), (4, [1, 2]), (5, [1, 2, 5]), (6, [1, 2, 5, 6, 7, 8]), (7, [1, 5, 6, 7, 8, 9, 10, 11]), (8, [4])], [(6, [(some 2), none, none, none, none, none, none, none, none, none, none, (some 6), none, none])]⟩ Tryz.f5 = some F5 := by kernel_rfl
theorem F5_fn : FnOK2 Tryz.prog 5 (.pl F5) := .pl Tryz.func5 (by kernel_rfl) F5_ok
theorem F8_ok : prepF Tryz.prog ⟨[0, 1, 2, 3], [(0, [0]), (1, [0, 1]), (2, [0, 1, 2]), (3, [0, 1, 3]), (4, [0])], []⟩ Tryz.f8 = some F8 := by kernel_rfl
theorem F8_fn : FnOK2 Tryz.prog 8 (.pl F8) := .pl Tryz.func8 (by kernel_rfl) F8_ok
theorem F9_ok : prepF Tryz.prog ⟨[1, 2], [(0, [1, 2]), (1, [1, 2, 6]), (2, [2, 3]), (3, [2, 3])], []⟩ Tryz.f9 = some F9 := by kernel_rfl
theorem F9_fn : FnOK2 Tryz.prog 9 (.pl F9) := .pl Tryz.func9 (by kernel_rfl) F9_ok
theorem F10_ok : prepF Tryz.prog ⟨[1], [(0, [1]), (1, [1, 4]), (2, [1, 4, 9]), (3, [2, 3]), (4, [1, 5]), (5, [5]), (6, [5, 20]), (7, [2, 3]), (8, [2, 3])], []⟩ Tryz.f10 = some F10 := by kernel_rfl
theorem F10_fn : FnOK2 Tryz.prog 10 (.pl F10) := .pl Tryz.func10 (by kernel_rfl) F10_ok
theorem F11_ok : prepF Tryz.prog ⟨[1], [(0, [1]), (1, [1, 3]), (2, [3]), (3, [2])], []⟩ Tryz.f11 = some F11 := by kernel_rfl
theorem F11_fn : FnOK2 Tryz.prog 11 (.pl F11) := .pl Tryz.func11 (by kernel_rfl) F11_ok
theorem F12_ok : prepF Tryz.prog ⟨[1], [(0, [1]), (1, [1, 3]), (2, [3]), (3, [2])], []⟩ Tryz.f12 = some F12 := by kernel_rfl
theorem F12_fn : FnOK2 Tryz.prog 12 (.pl F12) := .pl Tryz.func12 (by kernel_rfl) F12_ok
theorem F13_ok : prepF Tryz.prog ⟨[1, 5], [(0, [1]), (1, [1, 3]), (2, [3, 7, 8, 9]), (3, [3, 7, 8, 9, 10]), (4, [3, 5, 7, 8, 9]), (5, [3, 7, 8, 9]), (6, [3, 7, 8, 9]), (7, [2]), (1000000, [3, 7, 8, 9])], []⟩ Tryz.f13 = some F13 := by kernel_rfl
theorem F13_fn : FnOK2 Tryz.prog 13 (.pl F13) := .pl Tryz.func13 (by kernel_rfl) F13_ok
theorem F14_ok : prepF Tryz.prog ⟨[1], [(0, [1]), (1, [2])], []⟩ Tryz.f14 = some F14 := by kernel_rfl
theorem F14_fn : FnOK2 Tryz.prog 14 (.pl F14) := .pl Tryz.func14 (by kernel_rfl) F14_ok
theorem F15_ok : prepF Tryz.prog ⟨[2, 4, 9, 12], [(0, [1, 2, 4]), (1, [1, 2, 4, 7]), (2, [2, 4, 7, 13, 14, 15]), (3, [2, 4, 7, 13, 14, 15, 16]), (4, [2, 4, 7, 9, 13, 14, 15]), (5, [2, 4, 7, 10, 13, 14, 15]), (6, [2, 4, 7, 10, 13, 14, 15, 23]), (7, [4, 5, 6]), (8, [2, 4, 7, 10, 13, 14, 15]), (9, [2, 4, 7, 10, 13, 14, 15, 37, 38, 39]), (10, [2, 4, 7, 10, 13, 14, 15, 37, 38, 39, 40]), (11, [2, 4, 7, 10, 11, 12, 13, 14, 15, 37, 38, 39]), (12, [2, 4, 7, 10, 11, 13, 14, 15, 37, 38, 39]), (13, [2, 4, 7, 10, 11, 13, 14, 15, 37, 38, 39, 52]), (14, [2, 4, 7, 10, 13, 14, 15, 37, 38, 39]), (15, [2, 4, 7, 10, 13, 14, 15, 37, 38, 39]), (16, [2, 4, 7, 13, 14, 15]), (17, [2, 4, 7, 13, 14, 15]), (18, [4, 5, 6]), (1000000, [2, 4, 7, 13, 14, 15]), (1000002, [2, 4, 7, 10, 13, 14, 15, 37, 38, 39])], []⟩ Tryz.f15 = some F15 := by kernel_rfl
theorem F15_fn : FnOK2 Tryz.prog 15 (.pl F15) := .pl Tryz.func15 (by kernel_rfl) F15_ok
theorem F16_ok : prepF Tryz.prog ⟨[2], [(0, [1, 2]), (1, [1, 2, 5]), (2, [1, 2, 5, 6]), (3, [1, 2, 5, 6, 25]), (4, [1, 2, 5, 6]), (5, [1, 2, 5, 6]), (6, [4]), (1000000, [1, 2, 5, 6])], [(1, [(some 2), (some 2), none, none, none, (some 2), (some 2), none, none, none])]⟩ Tryz.f16 = some F16 := by kernel_rfl
theorem F16_fn : FnOK2 Tryz.prog 16 (.pl F16) := .pl Tryz.func16 (by kernel_rfl) F16_ok
theorem F19_ok : prepF Tryz.prog ⟨[1], [(0, [1]), (1, [2])], [(1, [none, (some 1), none, none, none])]⟩ Tryz.f19 = some F19 := by kernel_rfl
theorem F19_fn : FnOK2 Tryz.prog 19 (.pl F19) := .pl Tryz.func19 (by kernel_rfl) F19_ok
theorem F21_ok : prepF Tryz.prog ⟨[2, 3], [(0, [2, 3]), (1, [2, 3, 36]), (2, [4]), (3, [2, 3, 5]), (4, [2, 3, 5, 41]), (5, [2, 3, 5]), (6, [2, 3, 5, 54]), (7, [4]), (8, [2, 3, 6]), (9, [2, 3, 6, 59]), (10, [2, 3, 6]), (11, [2, 3, 6, 73]), (12, [4]), (13, [4]), (1000000, [2, 3, 5]), (1000002, [2, 3, 6])], [(11, [(some 2), (some 2), none, none, none, (some 3), (some 3), none, none, none, none, none]), (6, [(some 2), (some 2), none, none, none, (some 3), (some 3), none, none, none, none])]⟩ Tryz.f21 = some F21 := by kernel_rfl
theorem F21_fn : FnOK2 Tryz.prog 21 (.pl F21) := .pl Tryz.func21 (by kernel_rfl) F21_ok
theorem F23_ok : prepF Tryz.prog ⟨[2, 3], [(0, [2, 3]), (1, [2, 3, 86]), (2, [4]), (3, [2, 3, 5]), (4, [2, 3, 5, 91]), (5, [2, 3, 5]), (6, [2, 3, 5, 104]), (7, [4]), (8, [2, 3, 6]), (9, [2, 3, 6, 109]), (10, [2, 3, 6]), (11, [2, 3, 6, 123]), (12, [4]), (13, [4]), (1000000, [2, 3, 5]), (1000002, [2, 3, 6])], [(11, [(some 2), (some 2), none, none, none, (some 3), (some 3), none, none, none, none, none]), (6, [(some 2), (some 2), none, none, none, (some 3), (some 3), none, none, none, none])]⟩ Tryz.f23 = some F23 := by kernel_rfl
theorem F23_fn : FnOK2 Tryz.prog 23 (.pl F23) := .pl Tryz.func23 (by kernel_rfl) F23_ok
theorem F24_ok : prepF Tryz.prog ⟨[1, 2, 3, 5], [(0, [1, 2]), (1, [1, 2, 3]), (2, [1, 2, 3]), (3, [1, 2, 3]), (4, [2, 3, 17, 18, 19]), (5, [2, 3, 17, 18, 19, 20]), (6, [2, 3, 5, 17, 18, 19]), (7, [2, 3, 17, 18, 19]), (8, [2, 3, 17, 18, 19]), (9, [2]), (1000000, [2, 3, 17, 18, 19])], [(7, [(some 3), (some 3), (some 5), none, none, none, (some 3), (some 3)])]⟩ Tryz.f24 = some F24 := by kernel_rfl
theorem F24_fn : FnOK2 Tryz.prog 24 (.pl F24) := .pl Tryz.func24 (by kernel_rfl) F24_ok
theorem F25_ok : prepF Tryz.prog ⟨[3], [(0, [0, 3]), (1, [0, 3, 5]), (2, [0, 3, 5]), (3, [3, 5, 6]), (4, [3, 5, 6, 19]), (5, [3, 5, 6]), (6, [3, 5, 6]), (7, [4]), (1000000, [3, 5, 6])], []⟩ Tryz.f25 = some F25 := by kernel_rfl
theorem F25_fn : FnOK2 Tryz.prog 25 (.pl F25) := .pl Tryz.func25 (by kernel_rfl) F25_ok
theorem F26_ok : prepF Tryz.prog ⟨[2, 4], [(0, [1, 2, 4]), (1, [1, 2, 4, 7]), (2, [1, 2, 4, 7, 8]), (3, [1, 2, 4, 7, 8, 14]), (4, [1, 2, 4, 7, 8]), (5, [1, 2, 4, 7, 8, 9]), (6, [1, 2, 4, 7, 8, 9, 24]), (7, [4, 5, 6]), (8, [1, 2, 4, 7, 8, 9]), (9, [1, 2, 4, 7, 8, 9, 10]), (10, [1, 2, 4, 7, 8, 9, 10, 37]), (11, [1, 2, 4, 7, 8, 9, 10]), (12, [1, 2, 4, 7, 8, 9, 10]), (13, [1, 2, 4, 7, 8, 9, 10, 53]), (14, [1, 2, 4, 7, 8, 9, 10]), (15, [1, 2, 4, 7, 8]), (16, [4, 5, 6]), (1000000, [1, 2, 4, 7, 8]), (1000002, [1, 2, 4, 7, 8, 9, 10])], [(5, [(some 2), none, none, none, none, none, none])]⟩ Tryz.f26 = some F26 := by kernel_rfl
theorem F26_fn : FnOK2 Tryz.prog 26 (.pl F26) := .pl Tryz.func26 (by kernel_rfl) F26_ok
theorem F27_ok : prepF Tryz.prog ⟨[5], [(0, [0, 1, 5]), (1, [0, 1, 5, 22]), (2, [6]), (3, [0, 5, 7]), (4, [0, 5, 7, 28]), (5, [0, 5, 7]), (6, [0, 5, 7, 36]), (7, [6]), (8, [6]), (1000000, [0, 5, 7])], [(6, [none, none, none, none, (some 5), none])]⟩ Tryz.f27 = some F27 := by kernel_rfl
theorem F27_fn : FnOK2 Tryz.prog 27 (.pl F27) := .pl Tryz.func27 (by kernel_rfl) F27_ok
theorem F28_ok : prepF Tryz.prog ⟨[1], [(0, [1]), (1, [1, 3]), (2, [2]), (3, [1, 7]), (4, [2]), (5, [11]), (6, [2]), (7, [2])], []⟩ Tryz.f28 = some F28 := by kernel_rfl
theorem F28_fn : FnOK2 Tryz.prog 28 (.pl F28) := .pl Tryz.func28 (by kernel_rfl) F28_ok
theorem F30_ok : prepF Tryz.prog ⟨[2, 3], [(0, [2, 3]), (1, [2, 3, 12]), (2, [4]), (3, [4])], [(3, [(some 2), none, (some 3), none, none, none])]⟩ Tryz.f30 = some F30 := by kernel_rfl
theorem F30_fn : FnOK2 Tryz.prog 30 (.pl F30) := .pl Tryz.func30 (by kernel_rfl) F30_ok
theorem F32_ok : prepF Tryz.prog ⟨[1, 2, 3, 5], [(0, [1, 2]), (1, [1, 2, 7]), (2, [2]), (3, [1, 2, 3]), (4, [1, 2, 3, 15, 16, 17]), (5, [1, 2, 3, 15, 16, 17, 18]), (6, [1, 2, 3, 5, 15, 16, 17]), (7, [1, 2, 3, 5, 15, 16, 17, 23]), (8, [1, 2, 3, 5, 15, 16, 17]), (9, [1, 2, 3, 15, 16, 17]), (10, [1, 2, 3, 15, 16, 17]), (11, [2]), (1000000, [1, 2, 3, 15, 16, 17])], [(9, [(some 3), (some 3), (some 5), none, none, none, (some 3), (some 3)])]⟩ Tryz.f32 = some F32 := by kernel_rfl
theorem F32_fn : FnOK2 Tryz.prog 32 (.pl F32) := .pl Tryz.func32 (by kernel_rfl) F32_ok
theorem F33_ok : prepF Tryz.prog ⟨[3, 7], [(0, [0, 3]), (1, [0, 3, 13]), (2, [0, 3, 13, 14]), (3, []), (4, [0, 3, 13, 18]), (5, [0, 3, 13, 18]), (6, []), (7, [0, 3, 13, 25]), (8, [0, 4]), (9, []), (10, [0, 3, 13, 36]), (11, []), (12, [0, 3, 13, 43]), (13, [0, 3]), (14, [0, 48, 49, 50]), (15, [0, 48, 49, 50, 51]), (16, [0, 6, 7, 48, 49, 50]), (17, [0, 7, 48, 49, 50, 56]), (18, [0, 7, 48, 49, 50]), (19, [0, 48, 49, 50]), (20, [0, 48, 49, 50]), (21, []), (22, [0, 3, 65]), (23, [0, 3]), (24, [0, 3, 71, 72, 73]), (25, [0, 3, 71, 72, 73, 74]), (26, [0, 3, 8, 9, 71, 72, 73]), (27, [0, 3, 9, 71, 72, 73, 79]), (28, [0, 3, 9, 71, 72, 73]), (29, [0, 3, 9, 10, 71, 72, 73]), (30, [0, 3, 9, 71, 72, 73]), (31, [0, 3, 71, 72, 73]), (32, [0, 3, 71, 72, 73]), (33, []), (1000001, [0, 48, 49, 50]), (1000003, [0, 3, 71, 72, 73])], []⟩ Tryz.f33 = some F33 := by kernel_rfl
theorem F33_fn : FnOK2 Tryz.prog 33 (.pl F33) := .pl Tryz.func33 (by kernel_rfl) F33_ok
theorem F34_ok : prepF Tryz.prog ⟨[], [(0, [0]), (1, [2])], []⟩ Tryz.f34 = some F34 := by kernel_rfl
theorem F34_fn : FnOK2 Tryz.prog 34 (.pl F34) := .pl Tryz.func34 (by kernel_rfl) F34_ok
theorem F35_ok : prepF Tryz.prog ⟨[], [(0, [0]), (1, [2])], []⟩ Tryz.f35 = some F35 := by kernel_rfl
theorem F35_fn : FnOK2 Tryz.prog 35 (.pl F35) := .pl Tryz.func35 (by kernel_rfl) F35_ok
theorem F36_ok : prepF Tryz.prog ⟨[2, 5], [(0, [1, 2]), (1, [1, 2]), (2, [1, 2, 11]), (3, [1, 2]), (4, [1, 2]), (5, [1, 2, 21, 22, 23]), (6, [1, 2, 21, 22, 23, 24]), (7, [1, 2, 4, 5, 21, 22, 23]), (8, [1, 2, 4, 5, 21, 22, 23, 37]), (9, [1, 2, 5, 21, 22, 23]), (10, [1, 2, 21, 22, 23]), (11, [1, 2, 21, 22, 23]), (12, [1, 2]), (13, []), (1000000, [1, 2, 21, 22, 23])], []⟩ Tryz.f36 = some F36 := by kernel_rfl
theorem F36_fn : FnOK2 Tryz.prog 36 (.pl F36) := .pl Tryz.func36 (by kernel_rfl) F36_ok
theorem F37_ok : prepF Tryz.prog ⟨[], [(0, [])], []⟩ Tryz.f37 = some F37 := by kernel_rfl
theorem F37_fn : FnOK2 Tryz.prog 37 (.pl F37) := .pl Tryz.func37 (by kernel_rfl) F37_ok
theorem F38_ok : prepF Tryz.prog ⟨[], [(0, [0, 1]), (1, [0, 1]), (2, [1]), (3, [4, 5])], []⟩ Tryz.f38 = some F38 := by kernel_rfl
theorem F38_fn : FnOK2 Tryz.prog 38 (.pl F38) := .pl Tryz.func38 (by kernel_rfl) F38_ok
theorem F39_ok : prepF Tryz.prog ⟨[], [(0, [])], []⟩ Tryz.f39 = some F39 := by kernel_rfl
theorem F39_fn : FnOK2 Tryz.prog 39 (.pl F39) := .pl Tryz.func39 (by kernel_rfl) F39_ok
theorem F40_ok : prepF Tryz.prog ⟨[1, 5], [(0, [1]), (1, [1, 3]), (2, [3, 7, 8, 9]), (3, [3, 7, 8, 9, 10]), (4, [3, 5, 7, 8, 9]), (5, [3, 7, 8, 9]), (6, [3, 7, 8, 9]), (7, [2]), (1000000, [3, 7, 8, 9])], []⟩ Tryz.f40 = some F40 := by kernel_rfl
theorem F40_fn : FnOK2 Tryz.prog 40 (.pl F40) := .pl Tryz.func40 (by kernel_rfl) F40_ok
theorem F41_ok : prepF Tryz.prog ⟨[1, 5], [(0, [1]), (1, [1, 7]), (2, [2]), (3, [1, 72]), (4, [2]), (5, [1, 3]), (6, [1, 3, 75, 76, 77]), (7, [1, 3, 75, 76, 77, 78]), (8, [1, 3, 5, 75, 76, 77]), (9, [1, 3, 5, 75, 76, 77]), (10, [1, 3, 75, 76, 77, 116]), (11, [2]), (12, [1, 3, 75, 76, 77]), (13, [2]), (1000000, [1, 3, 75, 76, 77])], []⟩ Tryz.f41 = some F41 := by kernel_rfl
theorem F41_fn : FnOK2 Tryz.prog 41 (.pl F41) := .pl Tryz.func41 (by kernel_rfl) F41_ok
theorem F42_ok : prepF Tryz.prog ⟨[2, 3, 6], [(0, [2, 3]), (1, [2, 3, 8]), (2, [2, 3, 8, 9]), (3, [3, 26]), (4, [4]), (5, [2, 3, 29]), (6, [3, 32, 33, 34]), (7, [3, 32, 33, 34, 35]), (8, [3, 5, 6, 32, 33, 34]), (9, [3, 5, 32, 33, 34, 43]), (10, [4]), (11, [3, 32, 33, 34]), (12, [4]), (1000001, [3, 32, 33, 34])], []⟩ Tryz.f42 = some F42 := by kernel_rfl
theorem F42_fn : FnOK2 Tryz.prog 42 (.pl F42) := .pl Tryz.func42 (by kernel_rfl) F42_ok
theorem F43_ok : prepF Tryz.prog ⟨[2], [(0, [1, 2]), (1, [1, 2, 5]), (2, [1, 2, 5, 6]), (3, [1, 2, 5, 6, 16]), (4, [1, 2, 5, 6]), (5, [1, 2, 5, 6]), (6, [4]), (1000000, [1, 2, 5, 6])], []⟩ Tryz.f43 = some F43 := by kernel_rfl
theorem F43_fn : FnOK2 Tryz.prog 43 (.pl F43) := .pl Tryz.func43 (by kernel_rfl) F43_ok
theorem F47_ok : prepF Tryz.prog ⟨[3], [(0, [0, 3]), (1, [0, 3]), (2, [0, 3, 12]), (3, [4]), (4, [0, 3]), (5, [0, 3, 5]), (6, [0, 3, 5, 28]), (7, [0, 3, 5]), (8, [0, 3, 5, 40]), (9, [0, 3, 5]), (10, [0, 3, 5]), (11, [4]), (1000000, [0, 3, 5])], [(11, [none, (some 3), (some 3), none, (some 3), (some 3), none, none]), (3, [none, (some 3), (some 3), none, (some 3), (some 3), none, none])]⟩ Tryz.f47 = some F47 := by kernel_rfl
theorem F47_fn : FnOK2 Tryz.prog 47 (.pl F47) := .pl Tryz.func47 (by kernel_rfl) F47_ok
theorem F48_ok : prepF Tryz.prog ⟨[], [(0, [0]), (1, [2])], []⟩ Tryz.f48 = some F48 := by kernel_rfl
theorem F48_fn : FnOK2 Tryz.prog 48 (.pl F48) := .pl Tryz.func48 (by kernel_rfl) F48_ok
theorem F49_ok : prepF Tryz.prog ⟨[1, 2, 3, 5], [(0, [1, 2]), (1, [1, 2, 3]), (2, [1, 2, 3]), (3, [2, 3, 18, 19, 20]), (4, [2, 3, 18, 19, 20, 21]), (5, [2, 3, 5, 18, 19, 20]), (6, [2, 3, 18, 19, 20]), (7, [2, 3, 18, 19, 20]), (8, [2]), (1000000, [2, 3, 18, 19, 20])], [(6, [(some 3), (some 3), (some 5), none, none, none, (some 3), (some 3)])]⟩ Tryz.f49 = some F49 := by kernel_rfl
theorem F49_fn : FnOK2 Tryz.prog 49 (.pl F49) := .pl Tryz.func49 (by kernel_rfl) F49_ok
theorem F50_ok : prepF Tryz.prog ⟨[2, 3], [(0, [2, 3]), (1, [2, 3, 26]), (2, [4]), (3, [2, 3, 5]), (4, [2, 3, 5, 43]), (5, [2, 3, 5]), (6, [2, 3, 5, 54]), (7, [4]), (8, [4]), (1000000, [2, 3, 5])], [(6, [(some 2), (some 2), none, none, none, none, (some 3), (some 3), none])]⟩ Tryz.f50 = some F50 := by kernel_rfl
theorem F50_fn : FnOK2 Tryz.prog 50 (.pl F50) := .pl Tryz.func50 (by kernel_rfl) F50_ok
theorem F51_ok : prepF Tryz.prog ⟨[], [(0, [0, 1]), (1, [0, 1, 10]), (2, [4]), (3, [0, 1, 5]), (4, [0, 1, 5, 14]), (5, [0, 1, 5]), (6, [0, 1, 5, 25]), (7, [4]), (8, [4]), (1000000, [0, 1, 5])], []⟩ Tryz.f51 = some F51 := by kernel_rfl
theorem F51_fn : FnOK2 Tryz.prog 51 (.pl F51) := .pl Tryz.func51 (by kernel_rfl) F51_ok
theorem F52_ok : prepF Tryz.prog ⟨[1, 5], [(0, [1]), (1, [1, 3]), (2, [3, 7, 8, 9]), (3, [3, 7, 8, 9, 10]), (4, [3, 5, 7, 8, 9]), (5, [3, 7, 8, 9]), (6, [3, 7, 8, 9]), (7, [2]), (1000000, [3, 7, 8, 9])], []⟩ Tryz.f52 = some F52 := by kernel_rfl
theorem F52_fn : FnOK2 Tryz.prog 52 (.pl F52) := .pl Tryz.func52 (by kernel_rfl) F52_ok
theorem F53_ok : prepF Tryz.prog ⟨[1, 5], [(0, [1]), (1, [1, 3]), (2, [3, 7, 8, 9]), (3, [3, 7, 8, 9, 10]), (4, [3, 5, 7, 8, 9]), (5, [3, 7, 8, 9]), (6, [3, 7, 8, 9]), (7, [2]), (1000000, [3, 7, 8, 9])], []⟩ Tryz.f53 = some F53 := by kernel_rfl
theorem F53_fn : FnOK2 Tryz.prog 53 (.pl F53) := .pl Tryz.func53 (by kernel_rfl) F53_ok
theorem F54_ok : prepF Tryz.prog ⟨[1, 4], [(0, [1]), (1, [1, 9, 10, 11]), (2, [1, 9, 10, 11, 12]), (3, [1, 4, 9, 10, 11]), (4, [1, 9, 10, 11, 17]), (5, [2]), (6, [1, 9, 10, 11]), (7, [1, 5]), (8, [1, 5, 30]), (9, [1, 5, 30, 31]), (10, [2]), (11, [1, 5, 30, 39]), (12, [2]), (13, [1, 5, 30, 52]), (14, [1, 5, 6, 7]), (15, [2]), (16, [1, 5, 30, 71]), (17, [2]), (18, [1, 5, 30, 79]), (19, [2]), (20, [1, 30, 87]), (21, [2]), (22, [1, 98]), (23, [2]), (24, [2]), (1000000, [1, 9, 10, 11])], []⟩ Tryz.f54 = some F54 := by kernel_rfl
theorem F54_fn : FnOK2 Tryz.prog 54 (.pl F54) := .pl Tryz.func54 (by kernel_rfl) F54_ok
theorem F56_ok : prepF Tryz.prog ⟨[2, 3], [(0, [2, 3]), (1, [4])], []⟩ Tryz.f56 = some F56 := by kernel_rfl
theorem F56_fn : FnOK2 Tryz.prog 56 (.pl F56) := .pl Tryz.func56 (by kernel_rfl) F56_ok
theorem F57_ok : prepF Tryz.prog ⟨[1, 2, 3, 5], [(0, [1, 2]), (1, [1, 2, 3]), (2, [1, 2, 3, 24]), (3, [1, 2, 3]), (4, [2, 3, 32, 33, 34]), (5, [2, 3, 32, 33, 34, 35]), (6, [2, 3, 5, 32, 33, 34]), (7, [2, 3, 32, 33, 34]), (8, [2, 3, 32, 33, 34]), (9, [2]), (10, [1, 2, 3, 49, 50, 51]), (11, [1, 2, 3, 49, 50, 51, 52]), (12, [1, 2, 3, 7, 49, 50, 51]), (13, [1, 2, 3, 7, 49, 50, 51]), (14, [1, 2, 3, 49, 50, 51]), (15, [1, 2, 3, 49, 50, 51]), (16, [2]), (1000000, [2, 3, 32, 33, 34]), (1000002, [1, 2, 3, 49, 50, 51])], [(14, [(some 3), (some 3), (some 1), (some 1), none, none, none, none, none, none, (some 3), (some 3)]), (13, [(some 3), (some 3), (some 1), (some 1), none, none, none, none, none, (some 3), (some 3)]), (7, [(some 3), (some 3), (some 5), none, none, none, (some 3), (some 3)])]⟩ Tryz.f57 = some F57 := by kernel_rfl
theorem F57_fn : FnOK2 Tryz.prog 57 (.pl F57) := .pl Tryz.func57 (by kernel_rfl) F57_ok
theorem F58_ok : prepF Tryz.prog ⟨[1], [(0, [1]), (1, [2])], []⟩ Tryz.f58 = some F58 := by kernel_rfl
theorem F58_fn : FnOK2 Tryz.prog 58 (.pl F58) := .pl Tryz.func58 (by kernel_rfl) F58_ok
theorem F59_ok : prepF Tryz.prog ⟨[], [(0, [0, 1, 8]), (1, [])], []⟩ Tryz.f59 = some F59 := by kernel_rfl
theorem F59_fn : FnOK2 Tryz.prog 59 (.pl F59) := .pl Tryz.func59 (by kernel_rfl) F59_ok
theorem F60_ok : prepF Tryz.prog ⟨[], [(0, [0]), (1, [0, 10]), (2, [2, 3]), (3, [0, 4]), (4, [0, 4]), (5, [0, 4, 13, 14]), (6, [0, 4, 13, 14, 15]), (7, [0, 4, 5, 13, 14]), (8, [0, 4, 6, 13, 14]), (9, [0, 4, 6, 7, 13, 14]), (10, [0, 4, 13, 14]), (11, [0, 4, 6, 7, 13, 14, 24]), (12, [0, 4, 7, 13, 14]), (13, [0, 4, 13, 14]), (14, [0, 4, 6, 13, 14, 30]), (15, [0, 4, 6, 13, 14]), (16, [0, 4, 6, 13, 14]), (17, [0, 4, 13, 14]), (18, [0, 4, 13, 14]), (19, [4]), (20, [2, 3]), (1000000, [0, 4, 13, 14])], []⟩ Tryz.f60 = some F60 := by kernel_rfl
theorem F60_fn : FnOK2 Tryz.prog 60 (.pl F60) := .pl Tryz.func60 (by kernel_rfl) F60_ok
theorem F61_ok : prepF Tryz.prog ⟨[], [(0, [1]), (1, [1, 3]), (2, [1, 3, 9, 10]), (3, [1, 3, 9, 10, 11]), (4, [1, 3, 4, 9, 10]), (5, [1, 3, 9, 10]), (6, [1, 3, 9, 10]), (7, [3]), (8, [2]), (1000000, [1, 3, 9, 10])], []⟩ Tryz.f61 = some F61 := by kernel_rfl
theorem F61_fn : FnOK2 Tryz.prog 61 (.pl F61) := .pl Tryz.func61 (by kernel_rfl) F61_ok
theorem F62_ok : prepF Tryz.prog ⟨[], [(0, [0, 6]), (1, []), (2, [19])], []⟩ Tryz.f62 = some F62 := by kernel_rfl
theorem F62_fn : FnOK2 Tryz.prog 62 (.pl F62) := .pl Tryz.func62 (by kernel_rfl) F62_ok
theorem F63_ok : prepF Tryz.prog ⟨[], [(0, [0]), (1, [2])], []⟩ Tryz.f63 = some F63 := by kernel_rfl
theorem F63_fn : FnOK2 Tryz.prog 63 (.pl F63) := .pl Tryz.func63 (by kernel_rfl) F63_ok
theorem F66_ok : prepF Tryz.prog ⟨[4], [(0, [0]), (1, [4, 5]), (2, [4, 5, 12]), (3, [2, 3]), (4, [2, 3])], []⟩ Tryz.f66 = some F66 := by kernel_rfl
theorem F66_fn : FnOK2 Tryz.prog 66 (.pl F66) := .pl Tryz.func66 (by kernel_rfl) F66_ok
theorem F67_ok : prepF Tryz.prog ⟨[], [(0, [0]), (1, [0, 11]), (2, [2]), (3, [0]), (4, [3, 4, 5]), (5, [2])], []⟩ Tryz.f67 = some F67 := by kernel_rfl
theorem F67_fn : FnOK2 Tryz.prog 67 (.pl F67) := .pl Tryz.func67 (by kernel_rfl) F67_ok
theorem F68_ok : prepF Tryz.prog ⟨[], [(0, [0]), (1, [0, 3]), (2, [3, 7, 8, 9]), (3, [3, 7, 8, 9, 10]), (4, [3, 5, 7, 8, 9]), (5, [3, 5, 7, 8, 9]), (6, [3, 7, 8, 9, 25]), (7, [2]), (8, [3, 7, 8, 9]), (9, [2]), (1000000, [3, 7, 8, 9])], []⟩ Tryz.f68 = some F68 := by kernel_rfl
theorem F68_fn : FnOK2 Tryz.prog 68 (.pl F68) := .pl Tryz.func68 (by kernel_rfl) F68_ok
theorem F70_ok : prepF Tryz.prog ⟨[], [(0, [0, 1]), (1, [0, 1, 10]), (2, [4]), (3, [0, 1, 12, 13]), (4, [0, 1, 12, 13, 14]), (5, [0, 1, 5, 12, 13]), (6, [0, 1, 12, 13, 24]), (7, [4]), (8, [0, 1, 12, 13]), (9, [4]), (1000000, [0, 1, 12, 13])], []⟩ Tryz.f70 = some F70 := by kernel_rfl
theorem F70_fn : FnOK2 Tryz.prog 70 (.pl F70) := .pl Tryz.func70 (by kernel_rfl) F70_ok
theorem F71_ok : prepF Tryz.prog ⟨[8, 9], [(0, [0, 1, 2]), (1, [0, 1, 2, 14]), (2, [6]), (3, [1, 2, 15, 16, 17]), (4, [1, 2, 15, 16, 17, 18]), (5, [1, 2, 7, 8, 15, 16, 17]), (6, [1, 2, 8, 9, 15, 16, 17]), (7, [1, 2, 15, 16, 17, 30]), (8, [6]), (9, [1, 2, 15, 16, 17]), (10, [6]), (1000000, [1, 2, 15, 16, 17])], []⟩ Tryz.f71 = some F71 := by kernel_rfl
theorem F71_fn : FnOK2 Tryz.prog 71 (.pl F71) := .pl Tryz.func71 (by kernel_rfl) F71_ok
theorem F72_ok : prepF Tryz.prog ⟨[], [(0, [0]), (1, [2])], []⟩ Tryz.f72 = some F72 := by kernel_rfl
theorem F72_fn : FnOK2 Tryz.prog 72 (.pl F72) := .pl Tryz.func72 (by kernel_rfl) F72_ok
theorem F73_ok : prepF Tryz.prog ⟨[], [(0, [0, 1]), (1, [0, 1]), (2, []), (3, [4])], []⟩ Tryz.f73 = some F73 := by kernel_rfl
theorem F73_fn : FnOK2 Tryz.prog 73 (.pl F73) := .pl Tryz.func73 (by kernel_rfl) F73_ok
theorem F74_ok : prepF Tryz.prog ⟨[], [(0, [0]), (1, [0, 3]), (2, [0, 3, 4]), (3, [0, 3, 4]), (4, [2]), (5, [3, 8]), (6, [2]), (7, [3, 10]), (8, [2]), (9, [3, 12]), (10, [2]), (11, [3, 14]), (12, [2]), (13, [16]), (14, [2]), (15, [2])], []⟩ Tryz.f74 = some F74 := by kernel_rfl
theorem F74_fn : FnOK2 Tryz.prog 74 (.pl F74) := .pl Tryz.func74 (by kernel_rfl) F74_ok
theorem F75_ok : prepF Tryz.prog ⟨[], [(0, [0]), (1, [2])], []⟩ Tryz.f75 = some F75 := by kernel_rfl
theorem F75_fn : FnOK2 Tryz.prog 75 (.pl F75) := .pl Tryz.func75 (by kernel_rfl) F75_ok
theorem F76_ok : prepF Tryz.prog ⟨[], [(0, [])], []⟩ Tryz.f76 = some F76 := by kernel_rfl
theorem F76_fn : FnOK2 Tryz.prog 76 (.pl F76) := .pl Tryz.func76 (by kernel_rfl) F76_ok
theorem F77_ok : prepF Tryz.prog ⟨[], [(0, [0, 1, 2]), (1, [5])], []⟩ Tryz.f77 = some F77 := by kernel_rfl
theorem F77_fn : FnOK2 Tryz.prog 77 (.pl F77) := .pl Tryz.func77 (by kernel_rfl) F77_ok
theorem F78_ok : prepF Tryz.prog ⟨[], [(0, [0, 1]), (1, [4])], []⟩ Tryz.f78 = some F78 := by kernel_rfl
theorem F78_fn : FnOK2 Tryz.prog 78 (.pl F78) := .pl Tryz.func78 (by kernel_rfl) F78_ok
theorem F80_ok : prepF Tryz.prog ⟨[], [(0, [0]), (1, [0, 3]), (2, [0, 3, 9]), (3, [0, 3, 5]), (4, [0, 3, 5, 18]), (5, [2]), (6, [0, 3]), (7, [2]), (1000000, [0, 3])], []⟩ Tryz.f80 = some F80 := by kernel_rfl
theorem F80_fn : FnOK2 Tryz.prog 80 (.pl F80) := .pl Tryz.func80 (by kernel_rfl) F80_ok
theorem F84_ok : prepF Tryz.prog ⟨[2], [(0, [0, 2]), (1, [0, 2, 4, 5, 6, 7, 8]), (2, [0, 2, 4, 5, 6, 7, 21]), (3, [2, 3]), (4, [2, 4, 5, 6, 7, 25]), (5, [2, 3]), (6, [2, 4, 5, 6, 8, 9]), (7, [2, 4, 5, 6, 9, 33]), (8, [2, 3]), (9, [2, 4, 6, 9, 10]), (10, [2, 4, 9, 10]), (11, [2, 4, 9, 10, 11]), (12, [2, 4, 9, 11]), (13, [2, 4, 9, 11, 53]), (14, [2, 3]), (15, [2, 3])], []⟩ Tryz.f84 = some F84 := by kernel_rfl
theorem F84_fn : FnOK2 Tryz.prog 84 (.pl F84) := .pl Tryz.func84 (by kernel_rfl) F84_ok
theorem F85_ok : prepF Tryz.prog ⟨[1], [(0, [1]), (1, [1, 4]), (2, [1, 4, 9]), (3, [1, 4, 9]), (4, [1, 4, 9]), (5, [2, 3]), (6, [1, 4, 42]), (7, [2, 3]), (8, [1, 51]), (9, [2, 3]), (10, [1, 5]), (11, [1, 5, 57]), (12, [1, 5]), (13, [1, 5, 62]), (14, [5]), (15, [5, 71]), (16, [2, 3]), (17, [2, 3])], []⟩ Tryz.f85 = some F85 := by kernel_rfl
theorem F85_fn : FnOK2 Tryz.prog 85 (.pl F85) := .pl Tryz.func85 (by kernel_rfl) F85_ok
theorem F86_ok : prepF Tryz.prog ⟨[], [(0, [0]), (1, [0, 33]), (2, [2]), (3, [2])], []⟩ Tryz.f86 = some F86 := by kernel_rfl
theorem F86_fn : FnOK2 Tryz.prog 86 (.pl F86) := .pl Tryz.func86 (by kernel_rfl) F86_ok
theorem F87_ok : prepF Tryz.prog ⟨[], [(0, [0]), (1, [0, 34]), (2, [2]), (3, [0, 37]), (4, [2]), (5, [0, 3]), (6, [2])], []⟩ Tryz.f87 = some F87 := by kernel_rfl
theorem F87_fn : FnOK2 Tryz.prog 87 (.pl F87) := .pl Tryz.func87 (by kernel_rfl) F87_ok
theorem F88_ok : prepF Tryz.prog ⟨[], [(0, [0]), (1, [0, 6]), (2, [2, 3]), (3, [0, 30]), (4, [2, 3]), (5, [0, 4]), (6, [0, 4, 51]), (7, [2, 3]), (8, [2, 3])], []⟩ Tryz.f88 = some F88 := by kernel_rfl
theorem F88_fn : FnOK2 Tryz.prog 88 (.pl F88) := .pl Tryz.func88 (by kernel_rfl) F88_ok
theorem F89_ok : prepF Tryz.prog ⟨[], [(0, [0, 1]), (1, [4, 5, 6])], []⟩ Tryz.f89 = some F89 := by kernel_rfl
theorem F89_fn : FnOK2 Tryz.prog 89 (.pl F89) := .pl Tryz.func89 (by kernel_rfl) F89_ok
theorem F90_ok : prepF Tryz.prog ⟨[], [(0, [0, 1, 2, 6]), (1, [0, 1, 2, 6, 7, 8]), (2, [0, 1, 2, 6, 7, 8, 13]), (3, [0, 1, 2, 6, 8]), (4, [0, 1, 2, 6, 7, 8]), (5, [0, 1, 2, 6, 7, 8]), (6, [0, 1, 2, 6]), (7, [0, 1, 2, 6, 30]), (8, [0, 1, 2, 6, 7, 8]), (9, [0, 1, 2, 6, 7, 8, 35]), (10, [0, 1, 2, 6, 8]), (11, [0, 1, 2, 6, 7, 8]), (12, [0, 1, 2, 6, 7, 8]), (13, [0, 1, 2, 6, 7, 9]), (14, [0, 1, 2, 6, 7, 9, 54]), (15, [0, 1, 2, 6]), (16, [0, 1, 2, 6]), (1000000, [0, 1, 2, 6, 7, 8]), (1000002, [0, 1, 2, 6]), (1000004, [0, 1, 2, 6, 7, 8])], []⟩ Tryz.f90 = some F90 := by kernel_rfl
theorem F90_fn : FnOK2 Tryz.prog 90 (.pl F90) := .pl Tryz.func90 (by kernel_rfl) F90_ok
theorem F91_ok : prepF Tryz.prog ⟨[], [(0, [0, 1]), (1, [4])], []⟩ Tryz.f91 = some F91 := by kernel_rfl
theorem F91_fn : FnOK2 Tryz.prog 91 (.pl F91) := .pl Tryz.func91 (by kernel_rfl) F91_ok
theorem F92_ok : prepF Tryz.prog ⟨[], [(0, [0]), (1, [0, 7]), (2, [2, 3]), (3, [0, 2, 3, 4]), (4, [0, 2, 3, 4, 22]), (5, [2, 3]), (6, [0, 2, 3, 4, 5]), (7, [0, 2, 3, 4, 5, 25]), (8, [0, 2, 3, 4, 5]), (9, [0, 2, 3, 4, 5, 32]), (10, [2, 3]), (11, [0, 2, 3, 4, 5]), (12, [2, 3, 48]), (13, [2, 3]), (14, [2, 3]), (1000000, [0, 2, 3, 4, 5])], []⟩ Tryz.f92 = some F92 := by kernel_rfl
theorem F92_fn : FnOK2 Tryz.prog 92 (.pl F92) := .pl Tryz.func92 (by kernel_rfl) F92_ok
theorem F96_ok : prepF Tryz.prog ⟨[], [(0, [0, 4]), (1, [4, 7]), (2, [2, 4, 7]), (3, [2, 4, 7, 13]), (4, [2, 4, 7]), (5, [2, 4, 7, 8]), (6, [2, 4, 7, 8, 28]), (7, [2, 3, 4, 5, 6]), (8, [2, 3, 4, 7]), (9, [2, 3, 4, 7, 36]), (10, [2, 3, 7, 8]), (11, [2, 3, 7, 8, 41]), (12, [2, 3, 4, 5, 6]), (13, [2, 3, 4, 7]), (14, [2, 3, 4, 7, 51]), (15, [2, 3, 4, 5, 6]), (16, [2, 3, 4, 7, 62]), (17, [2, 3, 4, 5, 6]), (18, [2, 3, 4, 5]), (19, [2, 3, 4, 5, 9]), (20, [2, 3, 4, 5, 9, 69]), (21, [2, 3, 4, 5, 9]), (22, [2, 3, 4, 5, 80]), (23, [2, 3, 4, 5, 6]), (24, [2, 3, 4, 5, 6])], []⟩ Tryz.f96 = some F96 := by kernel_rfl
theorem F96_fn : FnOK2 Tryz.prog 96 (.pl F96) := .pl Tryz.func96 (by kernel_rfl) F96_ok
theorem F97_ok : prepF Tryz.prog ⟨[], [(0, [0]), (1, [0, 4]), (2, [0, 4]), (3, [0, 4, 14]), (4, [2, 3]), (5, [4, 5]), (6, [5, 21]), (7, [2, 3]), (8, [2, 3])], []⟩ Tryz.f97 = some F97 := by kernel_rfl
theorem F97_fn : FnOK2 Tryz.prog 97 (.pl F97) := .pl Tryz.func97 (by kernel_rfl) F97_ok
theorem F98_ok : prepF Tryz.prog ⟨[], [(0, [0, 1]), (1, [0, 1, 12]), (2, [4]), (3, [0, 1, 21]), (4, [4]), (5, [0, 1, 5, 6]), (6, [0, 1, 5, 31]), (7, [4]), (8, [4])], []⟩ Tryz.f98 = some F98 := by kernel_rfl
theorem F98_fn : FnOK2 Tryz.prog 98 (.pl F98) := .pl Tryz.func98 (by kernel_rfl) F98_ok
theorem F99_ok : prepF Tryz.prog ⟨[], [(0, [0, 1]), (1, [0, 1, 12]), (2, [4]), (3, [0, 1, 21]), (4, [4]), (5, [0, 1, 5, 6]), (6, [0, 1, 5, 31]), (7, [4]), (8, [4])], []⟩ Tryz.f99 = some F99 := by kernel_rfl
theorem F99_fn : FnOK2 Tryz.prog 99 (.pl F99) := .pl Tryz.func99 (by kernel_rfl) F99_ok
theorem F100_ok : prepF Tryz.prog ⟨[], [(0, [0]), (1, [0, 3]), (2, [0, 3, 13]), (3, [0, 3]), (4, [2]), (1000000, [0, 3])], []⟩ Tryz.f100 = some F100 := by kernel_rfl
theorem F100_fn : FnOK2 Tryz.prog 100 (.pl F100) := .pl Tryz.func100 (by kernel_rfl) F100_ok
theorem F101_ok : prepF Tryz.prog ⟨[], [(0, [0]), (1, [2])], []⟩ Tryz.f101 = some F101 := by kernel_rfl
theorem F101_fn : FnOK2 Tryz.prog 101 (.pl F101) := .pl Tryz.func101 (by kernel_rfl) F101_ok
theorem F102_ok : prepF Tryz.prog ⟨[], [(0, [0]), (1, [0, 25]), (2, [2]), (3, [2])], []⟩ Tryz.f102 = some F102 := by kernel_rfl
theorem F102_fn : FnOK2 Tryz.prog 102 (.pl F102) := .pl Tryz.func102 (by kernel_rfl) F102_ok
theorem F103_ok : prepF Tryz.prog ⟨[], [(0, [0, 1, 2]), (1, [6])], []⟩ Tryz.f103 = some F103 := by kernel_rfl
theorem F103_fn : FnOK2 Tryz.prog 103 (.pl F103) := .pl Tryz.func103 (by kernel_rfl) F103_ok
theorem F104_ok : prepF Tryz.prog ⟨[], [(0, [0, 1]), (1, [0, 5]), (2, [0, 5, 6]), (3, [0, 5, 6]), (4, [0, 5, 6]), (5, [0, 5, 6]), (6, [4]), (7, [0, 11]), (8, [25]), (9, [4]), (10, [4]), (11, [4])], []⟩ Tryz.f104 = some F104 := by kernel_rfl
theorem F104_fn : FnOK2 Tryz.prog 104 (.pl F104) := .pl Tryz.func104 (by kernel_rfl) F104_ok
theorem F105_ok : prepF Tryz.prog ⟨[], [(0, [0, 1]), (1, [0, 1, 12]), (2, [4]), (3, [0, 1, 21]), (4, [4]), (5, [0, 1, 5, 6]), (6, [0, 1, 5, 34]), (7, [4]), (8, [4])], []⟩ Tryz.f105 = some F105 := by kernel_rfl
theorem F105_fn : FnOK2 Tryz.prog 105 (.pl F105) := .pl Tryz.func105 (by kernel_rfl) F105_ok
theorem F106_ok : prepF Tryz.prog ⟨[], [(0, [0, 1]), (1, [4])], []⟩ Tryz.f106 = some F106 := by kernel_rfl
theorem F106_fn : FnOK2 Tryz.prog 106 (.pl F106) := .pl Tryz.func106 (by kernel_rfl) F106_ok
theorem F107_ok : prepF Tryz.prog ⟨[], [(0, [0, 1]), (1, [0, 1, 7]), (2, [0, 1, 7, 12]), (3, [4, 5, 6]), (4, [4, 5, 6])], []⟩ Tryz.f107 = some F107 := by kernel_rfl
theorem F107_fn : FnOK2 Tryz.prog 107 (.pl F107) := .pl Tryz.func107 (by kernel_rfl) F107_ok
theorem F108_ok : prepF Tryz.prog ⟨[], [(0, [0, 1, 2, 3, 8]), (1, [0, 1, 2, 3, 8, 14]), (2, [0, 1, 2, 3, 8]), (3, [0, 1, 2, 3, 8, 9]), (4, [0, 1, 2, 3, 8, 9, 34]), (5, [0, 1, 2, 3, 8, 9]), (6, [0, 1, 2, 3, 8, 9]), (1000000, [0, 1, 2, 3, 8]), (1000002, [0, 1, 2, 3, 8, 9])], []⟩ Tryz.f108 = some F108 := by kernel_rfl
theorem F108_fn : FnOK2 Tryz.prog 108 (.pl F108) := .pl Tryz.func108 (by kernel_rfl) F108_ok
theorem F109_ok : prepF Tryz.prog ⟨[], [(0, [0, 1, 2, 3, 4, 28]), (1, [0, 1, 3, 4, 10]), (2, [0, 1, 4, 10, 11]), (3, [0, 1, 4, 10, 11, 33]), (4, [0, 1, 4, 10, 11, 12]), (5, [0, 1, 4, 10, 11, 12, 50]), (6, [0, 1, 4, 10, 11]), (7, [0, 1, 4, 10, 11]), (8, [0, 10, 13]), (9, [0, 10, 13, 58]), (10, [0, 10, 13]), (11, [0, 10, 13]), (12, [0, 1, 2, 3, 4, 80]), (13, [0, 2, 4, 14]), (14, [0, 2, 4, 14, 15]), (15, [0, 2, 4, 14, 15, 85]), (16, [0, 2, 4, 14, 15, 16]), (17, [0, 2, 4, 14, 15, 16, 103]), (18, [0, 2, 4, 14, 15]), (19, [0, 2, 4, 14, 15]), (20, [0, 14, 17]), (21, [0, 14, 17, 110]), (22, [0, 14, 17]), (23, [0, 14, 17]), (24, [0, 1, 2, 3, 4, 18]), (25, [0, 1, 2, 3, 4, 18, 19]), (26, [0, 1, 2, 3, 4, 18, 19]), (27, [0, 1, 2, 3, 4, 18, 19, 140]), (28, [0, 1, 2, 3, 4, 18, 19, 20]), (29, [0, 1, 2, 3, 4, 18, 19, 20, 21]), (30, [0, 1, 2, 3, 4, 18, 19, 20]), (31, [0, 1, 2, 3, 4, 18, 19, 20, 21]), (32, [0, 1, 2, 3, 4, 18, 19, 20, 21, 22]), (33, [0, 1, 2, 3, 4, 18, 19, 20, 21, 22, 151]), (34, [0, 1, 2, 3, 4, 18, 19, 20, 21, 22, 23]), (35, [0, 1, 2, 3, 4, 18, 19, 20, 21, 22, 23, 171]), (36, [0, 1, 2, 3, 4, 18, 19, 20, 21, 22]), (37, [0, 1, 2, 3, 4, 18, 19, 20, 21, 22]), (38, [0, 1, 2, 3, 4, 18, 20, 24]), (39, [0, 1, 2, 3, 4, 18, 20, 24, 185]), (40, [0, 1, 3, 4, 18, 20, 24]), (41, [0, 1, 3, 4, 18, 20, 24, 199]), (42, [0, 3, 4, 18, 24]), (43, [0, 3, 4, 18, 24, 213]), (44, []), (1000000, [0, 1, 4, 10, 11]), (1000002, [0, 10, 13]), (1000004, [0, 2, 4, 14, 15]), (1000006, [0, 14, 17]), (1000008, [0, 1, 2, 3, 4, 18, 19, 20, 21, 22])], []⟩ Tryz.f109 = some F109 := by kernel_rfl
theorem F109_fn : FnOK2 Tryz.prog 109 (.pl F109) := .pl Tryz.func109 (by kernel_rfl) F109_ok
theorem F111_ok : prepF Tryz.prog ⟨[], [(0, [0]), (1, [0, 5]), (2, [2, 3, 4]), (3, [0, 11]), (4, [2, 3, 4]), (5, [0, 18]), (6, [2, 3, 4]), (7, [0, 25]), (8, [2, 3, 4]), (9, [2, 3, 4])], []⟩ Tryz.f111 = some F111 := by kernel_rfl
theorem F111_fn : FnOK2 Tryz.prog 111 (.pl F111) := .pl Tryz.func111 (by kernel_rfl) F111_ok
theorem F112_ok : prepF Tryz.prog ⟨[], [(0, [0]), (1, [2])], []⟩ Tryz.f112 = some F112 := by kernel_rfl
theorem F112_fn : FnOK2 Tryz.prog 112 (.pl F112) := .pl Tryz.func112 (by kernel_rfl) F112_ok
theorem F119_ok : prepF Tryz.prog ⟨[], [(0, [0, 1]), (1, [4])], []⟩ Tryz.f119 = some F119 := by kernel_rfl
theorem F119_fn : FnOK2 Tryz.prog 119 (.pl F119) := .pl Tryz.func119 (by kernel_rfl) F119_ok
theorem F120_ok : prepF Tryz.prog ⟨[], [(0, [0, 1]), (1, [4])], []⟩ Tryz.f120 = some F120 := by kernel_rfl
theorem F120_fn : FnOK2 Tryz.prog 120 (.pl F120) := .pl Tryz.func120 (by kernel_rfl) F120_ok
theorem F121_ok : prepF Tryz.prog ⟨[], [(0, [0]), (1, [0, 4, 5]), (2, [0, 4, 5, 12]), (3, [2, 3]), (4, [2, 3])], []⟩ Tryz.f121 = some F121 := by kernel_rfl
theorem F121_fn : FnOK2 Tryz.prog 121 (.pl F121) := .pl Tryz.func121 (by kernel_rfl) F121_ok
theorem F122_ok : prepF Tryz.prog ⟨[], [(0, [0, 1]), (1, [0, 1, 13]), (2, [0, 1]), (3, [4]), (1000000, [0, 1])], []⟩ Tryz.f122 = some F122 := by kernel_rfl
theorem F122_fn : FnOK2 Tryz.prog 122 (.pl F122) := .pl Tryz.func122 (by kernel_rfl) F122_ok
theorem F123_ok : prepF Tryz.prog ⟨[2], [(0, [0, 2]), (1, [0, 2, 4]), (2, [0, 2, 4, 9]), (3, [0, 2, 4]), (4, [0, 2, 4, 5]), (5, [0, 2, 4, 5, 16]), (6, [2, 3]), (7, [0, 2, 4]), (8, [2, 3]), (1000000, [0, 2, 4])], []⟩ Tryz.f123 = some F123 := by kernel_rfl
theorem F123_fn : FnOK2 Tryz.prog 123 (.pl F123) := .pl Tryz.func123 (by kernel_rfl) F123_ok
theorem F124_ok : prepF Tryz.prog ⟨[], [(0, [0, 1]), (1, [0, 1, 7]), (2, [0, 1, 12]), (3, [0, 1]), (4, [4]), (1000000, [0, 1])], []⟩ Tryz.f124 = some F124 := by kernel_rfl
theorem F124_fn : FnOK2 Tryz.prog 124 (.pl F124) := .pl Tryz.func124 (by kernel_rfl) F124_ok
theorem F125_ok : prepF Tryz.prog ⟨[], [(0, [0, 1]), (1, [0, 1, 9]), (2, [0, 1, 5, 6]), (3, [0, 1, 6, 18]), (4, [0, 1]), (5, [4]), (1000000, [0, 1])], []⟩ Tryz.f125 = some F125 := by kernel_rfl
theorem F125_fn : FnOK2 Tryz.prog 125 (.pl F125) := .pl Tryz.func125 (by kernel_rfl) F125_ok
theorem F126_ok : prepF Tryz.prog ⟨[], [(0, [0, 1]), (1, [0, 1, 16]), (2, [0, 1]), (3, [4]), (1000000, [0, 1])], []⟩ Tryz.f126 = some F126 := by kernel_rfl
theorem F126_fn : FnOK2 Tryz.prog 126 (.pl F126) := .pl Tryz.func126 (by kernel_rfl) F126_ok
theorem F127_ok : prepF Tryz.prog ⟨[], [(0, [0, 1]), (1, [0, 1, 7]), (2, [0, 1, 15]), (3, [0, 1]), (4, [4]), (1000000, [0, 1])], []⟩ Tryz.f127 = some F127 := by kernel_rfl
theorem F127_fn : FnOK2 Tryz.prog 127 (.pl F127) := .pl Tryz.func127 (by kernel_rfl) F127_ok
theorem F128_ok : prepF Tryz.prog ⟨[], [(0, [0, 1]), (1, [0, 1, 9]), (2, [0, 1, 5, 6]), (3, [0, 1, 5, 6, 17]), (4, [0, 1, 5, 6]), (5, [0, 1, 6, 26]), (6, [0, 1]), (7, [4]), (1000000, [0, 1])], []⟩ Tryz.f128 = some F128 := by kernel_rfl
theorem F128_fn : FnOK2 Tryz.prog 128 (.pl F128) := .pl Tryz.func128 (by kernel_rfl) F128_ok
theorem F129_ok : prepF Tryz.prog ⟨[], [(0, [0]), (1, [2])], []⟩ Tryz.f129 = some F129 := by kernel_rfl
theorem F129_fn : FnOK2 Tryz.prog 129 (.pl F129) := .pl Tryz.func129 (by kernel_rfl) F129_ok
theorem F130_ok : prepF Tryz.prog ⟨[], [(0, [0]), (1, [2])], []⟩ Tryz.f130 = some F130 := by kernel_rfl
theorem F130_fn : FnOK2 Tryz.prog 130 (.pl F130) := .pl Tryz.func130 (by kernel_rfl) F130_ok
theorem F131_ok : prepF Tryz.prog ⟨[], [(0, [0, 1]), (1, [4])], []⟩ Tryz.f131 = some F131 := by kernel_rfl
theorem F131_fn : FnOK2 Tryz.prog 131 (.pl F131) := .pl Tryz.func131 (by kernel_rfl) F131_ok
theorem F132_ok : prepF Tryz.prog ⟨[], [(0, [0, 1]), (1, [0, 1, 5]), (2, [0, 1, 5, 16]), (3, [4]), (4, [0, 1, 5, 24]), (5, [4]), (6, [0, 1, 5, 31]), (7, [4]), (8, [0, 1, 5, 36]), (9, [4]), (10, [0, 1, 5, 6]), (11, [0, 1, 5, 6, 7]), (12, [0, 1, 5, 6, 7, 8]), (13, [0, 1, 5, 6, 7, 8, 9]), (14, [0, 1, 5, 6, 7, 8, 9, 10]), (15, [0, 1, 5, 6, 7, 8, 9, 10, 59]), (16, [0, 1, 5, 6, 7, 8, 9, 10, 64]), (17, [0, 1, 5, 6, 7, 8, 9, 10, 11]), (18, [0, 1, 5, 6, 7, 8, 9, 10, 11, 73]), (19, [4]), (20, [0, 1, 5, 6, 7, 8, 9, 10]), (21, [0, 1, 5, 6, 7, 8, 9, 10, 93]), (22, [4]), (23, [0, 1, 5, 6, 7, 8, 9, 10]), (24, [0, 1, 5, 6, 7, 8, 9, 10]), (25, [0, 1, 5, 6, 7, 8, 9, 10, 107]), (26, [8, 12]), (27, [8, 12, 114]), (28, [4]), (29, [4]), (30, [0, 1, 5, 6, 7, 8, 9, 10, 132]), (31, [8, 13]), (32, [8, 13, 139]), (33, [4]), (34, [4]), (35, [4]), (1000001, [0, 1, 5, 6, 7, 8, 9, 10])], []⟩ Tryz.f132 = some F132 := by kernel_rfl
theorem F132_fn : FnOK2 Tryz.prog 132 (.pl F132) := .pl Tryz.func132 (by kernel_rfl) F132_ok
theorem F133_ok : prepF Tryz.prog ⟨[], [(0, [0, 2, 3, 4, 10]), (1, [0, 2, 4, 10, 11]), (2, [0, 2, 4, 10, 11, 20]), (3, [0, 2, 4, 10, 11, 23]), (4, [0, 2, 4, 10, 11]), (5, [0, 2, 4, 10, 11]), (6, [0, 2, 4, 10, 11]), (7, [0, 2, 4, 10, 11]), (8, []), (1000000, [0, 2, 4, 10, 11])], []⟩ Tryz.f133 = some F133 := by kernel_rfl
theorem F133_fn : FnOK2 Tryz.prog 133 (.pl F133) := .pl Tryz.func133 (by kernel_rfl) F133_ok
theorem F137_ok : prepF Tryz.prog ⟨[], [(0, [0, 1]), (1, [4])], []⟩ Tryz.f137 = some F137 := by kernel_rfl
theorem F137_fn : FnOK2 Tryz.prog 137 (.pl F137) := .pl Tryz.func137 (by kernel_rfl) F137_ok
theorem F138_ok : prepF Tryz.prog ⟨[], [(0, [0, 1]), (1, [0, 1, 7]), (2, [4]), (3, [4])], []⟩ Tryz.f138 = some F138 := by kernel_rfl
theorem F138_fn : FnOK2 Tryz.prog 138 (.pl F138) := .pl Tryz.func138 (by kernel_rfl) F138_ok
theorem F139_ok : prepF Tryz.prog ⟨[], [(0, [0]), (1, [0, 4]), (2, [0, 30]), (3, [0, 5]), (4, [0, 5, 39]), (5, [0, 5]), (6, [0, 5, 44]), (7, [2, 3]), (8, [0, 5, 6]), (9, [5, 6, 47, 48, 49]), (10, [5, 6, 47, 48, 49, 50]), (11, [5, 6, 8, 47, 48, 49]), (12, [5, 6, 8, 47, 48, 49]), (13, [5, 6, 8, 47, 48, 49, 56]), (14, [2, 3]), (15, [5, 6, 47, 48, 49]), (16, [5, 6, 47, 48, 49]), (17, [6, 66]), (18, [6]), (19, [2, 3]), (20, [9, 10]), (21, [2, 3]), (1000000, [5, 6, 47, 48, 49])], []⟩ Tryz.f139 = some F139 := by kernel_rfl
theorem F139_fn : FnOK2 Tryz.prog 139 (.pl F139) := .pl Tryz.func139 (by kernel_rfl) F139_ok
theorem F140_ok : prepF Tryz.prog ⟨[], [(0, [0, 1, 2, 3, 4]), (1, [0, 1, 2, 3, 4, 11]), (2, [0, 1, 2, 3, 4, 11, 12]), (3, [10]), (4, [0, 1, 2, 3, 4, 11, 19]), (5, [10]), (6, [0, 1, 2, 3, 4, 11, 26]), (7, [10]), (8, [0, 1, 3, 4, 34]), (9, [10]), (10, [10])], []⟩ Tryz.f140 = some F140 := by kernel_rfl
theorem F140_fn : FnOK2 Tryz.prog 140 (.pl F140) := .pl Tryz.func140 (by kernel_rfl) F140_ok
theorem F141_ok : prepF Tryz.prog ⟨[], [(0, [0, 1]), (1, [4])], []⟩ Tryz.f141 = some F141 := by kernel_rfl
theorem F141_fn : FnOK2 Tryz.prog 141 (.pl F141) := .pl Tryz.func141 (by kernel_rfl) F141_ok
theorem F142_ok : prepF Tryz.prog ⟨[], [(0, [0]), (1, [0, 10]), (2, [2, 3]), (3, [2, 3])], []⟩ Tryz.f142 = some F142 := by kernel_rfl
theorem F142_fn : FnOK2 Tryz.prog 142 (.pl F142) := .pl Tryz.func142 (by kernel_rfl) F142_ok
theorem F143_ok : prepF Tryz.prog ⟨[], [(0, [0, 1]), (1, [4])], []⟩ Tryz.f143 = some F143 := by kernel_rfl
theorem F143_fn : FnOK2 Tryz.prog 143 (.pl F143) := .pl Tryz.func143 (by kernel_rfl) F143_ok
theorem F144_ok : prepF Tryz.prog ⟨[], [(0, [0]), (1, [0, 4]), (2, [0, 4, 10]), (3, [2, 3]), (4, [0, 4, 5]), (5, [0, 2, 4, 5]), (6, [0, 2, 4, 5, 18]), (7, [2, 3]), (8, [0, 4, 5, 6]), (9, [0, 4, 5, 6]), (10, [0, 4, 5, 6, 27]), (11, [0, 4, 5, 6]), (12, [0, 4, 5, 6, 33]), (13, [0, 4, 5, 35]), (14, [0, 4, 5]), (15, [2, 3, 4, 5]), (16, [2, 3, 48]), (17, [2, 3]), (18, [2, 3]), (1000000, [0, 4, 5, 6])], []⟩ Tryz.f144 = some F144 := by kernel_rfl
theorem F144_fn : FnOK2 Tryz.prog 144 (.pl F144) := .pl Tryz.func144 (by kernel_rfl) F144_ok
theorem F145_ok : prepF Tryz.prog ⟨[], [(0, [0, 1]), (1, [0, 1, 11]), (2, [0, 17]), (3, [4]), (4, [0, 5]), (5, [0, 5, 6]), (6, [0, 5, 6, 23]), (7, [0, 5, 6]), (8, [0, 5, 6, 7]), (9, [0, 5, 7]), (10, [5, 7, 34]), (11, [5, 7]), (12, [4]), (13, [4]), (14, [9]), (15, [4])], []⟩ Tryz.f145 = some F145 := by kernel_rfl
theorem F145_fn : FnOK2 Tryz.prog 145 (.pl F145) := .pl Tryz.func145 (by kernel_rfl) F145_ok
theorem F146_ok : prepF Tryz.prog ⟨[], [(0, [0, 1]), (1, [4])], []⟩ Tryz.f146 = some F146 := by kernel_rfl
theorem F146_fn : FnOK2 Tryz.prog 146 (.pl F146) := .pl Tryz.func146 (by kernel_rfl) F146_ok
theorem F148_ok : prepF Tryz.prog ⟨[], [(0, [0]), (1, [2])], []⟩ Tryz.f148 = some F148 := by kernel_rfl
theorem F148_fn : FnOK2 Tryz.prog 148 (.pl F148) := .pl Tryz.func148 (by kernel_rfl) F148_ok
theorem F149_ok : prepF Tryz.prog ⟨[], [(0, [0, 1]), (1, [0, 1, 5, 6]), (2, [0, 1, 5, 6, 7]), (3, [0, 1, 5, 6, 7, 8]), (4, [0, 1, 5, 6, 7, 8, 9]), (5, [0, 1, 5, 6, 7, 8, 9, 20]), (6, [0, 1, 5, 6, 7, 8, 9]), (7, [0, 1, 5, 6, 7, 8, 9]), (8, [0, 1, 5, 6, 7, 8, 39]), (9, [4]), (10, [0, 1, 5, 6, 7, 8, 10]), (11, [0, 1, 5, 6, 7, 8, 10, 44]), (12, [0, 1, 5, 6, 7, 8, 10]), (13, [0, 1, 5, 6, 7, 8, 10]), (14, [0, 1, 5, 6, 7, 8, 10]), (15, [0, 1, 5, 6, 7, 8, 10]), (16, [0, 1, 5, 6, 7, 8, 10, 77]), (17, [4]), (18, [4]), (1000000, [0, 1, 5, 6, 7, 8, 9]), (1000002, [0, 1, 5, 6, 7, 8, 10])], []⟩ Tryz.f149 = some F149 := by kernel_rfl
theorem F149_fn : FnOK2 Tryz.prog 149 (.pl F149) := .pl Tryz.func149 (by kernel_rfl) F149_ok
theorem F150_ok : prepF Tryz.prog ⟨[], [(0, [0, 1, 2, 3, 10]), (1, [0, 1, 2, 3, 10, 13]), (2, [0, 1, 2, 3, 10]), (3, [0, 1, 2, 3, 10]), (1000000, [0, 1, 2, 3, 10])], []⟩ Tryz.f150 = some F150 := by kernel_rfl
theorem F150_fn : FnOK2 Tryz.prog 150 (.pl F150) := .pl Tryz.func150 (by kernel_rfl) F150_ok
theorem F152_ok : prepF Tryz.prog ⟨[], [(0, [0, 1, 2]), (1, [0, 1, 2, 13]), (2, [6, 7]), (3, [0, 1, 2, 8]), (4, [0, 1, 2, 8, 16]), (5, [0, 1, 2, 8, 16, 17]), (6, [0, 1, 2, 8]), (7, [0, 1, 2, 8, 21]), (8, [0, 1, 2]), (9, [0, 1, 2, 8]), (10, [0, 1, 2, 8]), (11, [2, 7, 8, 9]), (12, [2, 7, 8, 9, 38]), (13, [6, 7]), (14, [2, 8, 9, 41]), (15, [2, 8, 9]), (16, [8, 9, 10]), (17, [8, 9, 10, 52]), (18, [6, 7]), (19, [8, 9, 10, 62]), (20, [6, 7]), (21, [8, 11]), (22, [11, 69]), (23, [11]), (24, [6, 7])], []⟩ Tryz.f152 = some F152 := by kernel_rfl
theorem F152_fn : FnOK2 Tryz.prog 152 (.pl F152) := .pl Tryz.func152 (by kernel_rfl) F152_ok
theorem F153_ok : prepF Tryz.prog ⟨[], [(0, [0, 1]), (1, [4])], []⟩ Tryz.f153 = some F153 := by kernel_rfl
theorem F153_fn : FnOK2 Tryz.prog 153 (.pl F153) := .pl Tryz.func153 (by kernel_rfl) F153_ok
theorem F154_ok : prepF Tryz.prog ⟨[], [(0, [0, 1]), (1, [4])], []⟩ Tryz.f154 = some F154 := by kernel_rfl
theorem F154_fn : FnOK2 Tryz.prog 154 (.pl F154) := .pl Tryz.func154 (by kernel_rfl) F154_ok
theorem F155_ok : prepF Tryz.prog ⟨[], [(0, [0, 1, 2]), (1, [6])], []⟩ Tryz.f155 = some F155 := by kernel_rfl
theorem F155_fn : FnOK2 Tryz.prog 155 (.pl F155) := .pl Tryz.func155 (by kernel_rfl) F155_ok
theorem F156_ok : prepF Tryz.prog ⟨[], [(0, [0, 1, 2]), (1, [6])], []⟩ Tryz.f156 = some F156 := by kernel_rfl
theorem F156_fn : FnOK2 Tryz.prog 156 (.pl F156) := .pl Tryz.func156 (by kernel_rfl) F156_ok
theorem F157_ok : prepF Tryz.prog ⟨[9], [(0, [0]), (1, [0, 4]), (2, [0, 4, 16]), (3, [2, 3]), (4, [0, 4, 5]), (5, [0, 4, 5, 6]), (6, [0, 4, 5, 6, 23]), (7, [0, 7]), (8, [2, 3]), (9, [0, 4, 5, 6, 8]), (10, [0, 4, 5, 8, 9]), (11, [0, 5, 8, 9, 45]), (12, [2, 3]), (13, [0, 5, 8, 9, 10]), (14, [0, 5, 8, 10, 57]), (15, [2, 3]), (16, [0, 5, 8, 10, 59]), (17, [2, 3]), (18, [0, 5, 8, 10, 11]), (19, [0, 5, 8, 10, 11, 75]), (20, [2, 3]), (21, [0, 5, 10, 11, 77]), (22, [2, 3]), (23, [5, 10, 11, 12]), (24, [5, 10, 11, 12, 98]), (25, [2, 3]), (26, [2, 3])], []⟩ Tryz.f157 = some F157 := by kernel_rfl
theorem F157_fn : FnOK2 Tryz.prog 157 (.pl F157) := .pl Tryz.func157 (by kernel_rfl) F157_ok
theorem F158_ok : prepF Tryz.prog ⟨[], [(0, [0, 1]), (1, [0, 7]), (2, [0, 7, 8]), (3, [0, 7, 8, 9]), (4, [0, 7, 8, 9]), (5, [0, 7, 8, 9, 26]), (6, [0, 7, 8, 9, 33]), (7, [0, 7, 8, 9, 11]), (8, [0, 7, 8, 9, 11, 43]), (9, [4]), (10, [0, 7, 8, 9]), (11, [0, 7, 8, 9, 12]), (12, [0, 7, 8, 9, 12, 51]), (13, [0, 7, 8, 9, 12]), (14, [0, 7, 8, 9, 12, 64]), (15, [4]), (16, [0, 7, 8, 9, 10]), (17, [0, 7, 8, 9, 10]), (18, [0, 7, 8, 9, 98]), (19, [4]), (20, [8, 9, 13]), (21, [8, 9, 13, 108]), (22, [4]), (23, [0, 7, 8, 9, 14]), (24, [0, 7, 8, 9, 14, 15]), (25, [0, 7, 8, 9, 14, 15, 124]), (26, [0, 7, 8, 9, 14, 15]), (27, [0, 7, 8, 9, 14, 15, 139]), (28, [0, 7, 8, 9, 14, 15, 16]), (29, [0, 7, 8, 9, 14, 15, 16, 143]), (30, [0, 7, 8, 9, 14, 15, 16]), (31, [0, 7, 8, 9, 14, 15, 16, 156]), (32, [4]), (33, [4]), (34, [0, 1, 160]), (35, [4]), (36, [0, 1, 171]), (37, [175]), (38, [175, 176, 177]), (39, [5, 6, 175]), (40, [5, 175, 181]), (41, [4]), (42, [4]), (43, [0, 1, 183]), (44, [4]), (1000001, [0, 7, 8, 9]), (1000003, [0, 7, 8, 9, 12]), (1000005, [0, 7, 8, 9, 14, 15]), (1000007, [0, 7, 8, 9, 14, 15, 16]), (1000009, [175])], []⟩ Tryz.f158 = some F158 := by kernel_rfl
theorem F158_fn : FnOK2 Tryz.prog 158 (.pl F158) := .pl Tryz.func158 (by kernel_rfl) F158_ok
theorem F159_ok : prepF Tryz.prog ⟨[], [(0, [0]), (1, [2])], []⟩ Tryz.f159 = some F159 := by kernel_rfl
theorem F159_fn : FnOK2 Tryz.prog 159 (.pl F159) := .pl Tryz.func159 (by kernel_rfl) F159_ok
theorem F160_ok : prepF Tryz.prog ⟨[], [(0, [0]), (1, [0, 4]), (2, [2]), (3, [2])], []⟩ Tryz.f160 = some F160 := by kernel_rfl
theorem F160_fn : FnOK2 Tryz.prog 160 (.pl F160) := .pl Tryz.func160 (by kernel_rfl) F160_ok
theorem F161_ok : prepF Tryz.prog ⟨[], [(0, [0]), (1, [0, 3]), (2, [2])], []⟩ Tryz.f161 = some F161 := by kernel_rfl
theorem F161_fn : FnOK2 Tryz.prog 161 (.pl F161) := .pl Tryz.func161 (by kernel_rfl) F161_ok
theorem F162_ok : prepF Tryz.prog ⟨[], [(0, [0, 1, 4]), (1, [0, 1, 4, 20]), (2, [0, 1, 4, 5]), (3, [0, 1, 4, 5]), (4, [0, 1, 4, 6, 7]), (5, [0, 1, 4, 6, 8, 9]), (6, [0, 1, 4, 8, 9, 10, 11]), (7, [0, 1, 4, 8, 10, 11]), (8, [0, 1, 4, 10, 11]), (9, [0, 1, 4, 10]), (10, [0, 1, 4]), (11, [0, 1, 4]), (12, [0, 4, 12]), (13, [0, 4, 12, 99]), (14, [0, 4, 12, 13]), (15, [0, 4, 12, 13]), (16, [0, 4, 12, 14, 15]), (17, [0, 4, 12, 14]), (18, [0, 4, 12]), (19, [0, 4, 12]), (20, [0, 4, 12, 139]), (21, [0, 4, 12, 16]), (22, [0, 4, 12, 16]), (23, [0, 4, 12]), (24, [0, 4, 12]), (25, [0, 12, 161]), (26, []), (1000000, [0, 1, 4])], []⟩ Tryz.f162 = some F162 := by kernel_rfl
theorem F162_fn : FnOK2 Tryz.prog 162 (.pl F162) := .pl Tryz.func162 (by kernel_rfl) F162_ok
theorem F163_ok : prepF Tryz.prog ⟨[], [(0, [0, 1, 2, 3, 4, 10, 11]), (1, [0, 1, 2, 3, 4, 10, 11, 28]), (2, [0, 1, 2, 3, 4, 10, 11]), (3, [0, 1, 2, 3, 4, 10, 11, 12]), (4, [0, 1, 2, 3, 4, 10, 11, 12, 13]), (5, [0, 1, 2, 3, 4, 10, 11, 12, 13, 30]), (6, [0, 1, 2, 3, 4, 10, 11, 12, 13]), (7, [0, 1, 2, 3, 4, 10, 11, 12, 13, 34]), (8, [0, 1, 2, 3, 4, 10, 11, 12, 13, 14]), (9, [0, 1, 2, 3, 4, 10, 11, 12, 13, 14, 15]), (10, [0, 1, 3, 4, 10, 11, 12, 13, 14, 15, 16]), (11, [0, 1, 3, 4, 10, 11, 12, 13, 14, 15, 16, 46]), (12, [0, 1, 3, 4, 10, 11, 12, 13, 14, 15, 16]), (13, [0, 1, 3, 4, 10, 11, 12, 13, 14, 15, 16]), (14, [0, 1, 3, 4, 10, 11, 12, 13, 14, 15, 16]), (15, [0, 1, 3, 4, 10, 11, 12, 13]), (16, [0, 3, 4, 10, 11, 12, 13]), (17, [0, 1, 3, 4, 10, 11, 12, 13, 17]), (18, [0, 1, 3, 4, 10, 11, 12, 13, 17, 68]), (19, [0, 1, 3, 4, 10, 11, 12, 13, 17]), (20, [0, 1, 3, 4, 10, 11, 12, 13, 17, 18]), (21, [0, 3, 4, 10, 11, 12, 13, 17, 18]), (22, [0, 1, 3, 4, 10, 11, 12, 13, 17]), (23, [0, 1, 3, 4, 10, 11, 12, 13]), (24, [0, 3, 4, 10, 11, 12, 13]), (25, [0, 4, 10, 11, 12, 13, 89]), (26, [0, 4, 10, 11, 12, 13]), (27, [0, 4, 10, 11, 12, 13]), (28, [0, 10, 11, 12, 13, 94]), (29, [10, 11]), (30, [10, 11]), (1000000, [0, 1, 3, 4, 10, 11, 12, 13, 14, 15, 16]), (1000002, [0, 1, 3, 4, 10, 11, 12, 13, 17])], []⟩ Tryz.f163 = some F163 := by kernel_rfl
theorem F163_fn : FnOK2 Tryz.prog 163 (.pl F163) := .pl Tryz.func163 (by kernel_rfl) F163_ok
theorem F165_ok : prepF Tryz.prog ⟨[], [(0, [0]), (1, [0, 4]), (2, [0, 4, 5]), (3, [0, 4, 5, 12]), (4, [0, 4, 5]), (5, [0, 4, 5]), (6, [0, 4, 6, 7]), (7, [4, 6, 7, 8]), (8, [4, 6, 7, 8, 25]), (9, [4, 6, 7, 8]), (10, [4, 6, 7, 8, 30]), (11, [4, 6, 7, 8]), (12, [4, 6, 7, 8]), (13, [2, 3]), (1000000, [0, 4, 5]), (1000002, [4, 6, 7, 8])], []⟩ Tryz.f165 = some F165 := by kernel_rfl
theorem F165_fn : FnOK2 Tryz.prog 165 (.pl F165) := .pl Tryz.func165 (by kernel_rfl) F165_ok
theorem F166_ok : prepF Tryz.prog ⟨[], [(0, [0, 1, 2]), (1, [0, 1, 2, 19]), (2, [6, 7]), (3, [0, 1, 2, 8]), (4, [0, 1, 2, 8, 9]), (5, [6, 7]), (6, [0, 1, 2, 8, 9, 25]), (7, [0, 2, 8, 9, 32]), (8, [0, 1, 2, 8, 9]), (9, [0, 1, 2, 8, 9, 37]), (10, [0, 1, 2, 8, 9]), (11, [0, 1, 2, 8, 9]), (12, [0, 2, 8, 9, 40]), (13, [0, 1, 2, 8, 9]), (14, [0, 1, 2, 8, 9]), (15, [0, 2, 8, 9, 52]), (16, [0, 1, 2, 8, 9]), (17, [0, 1, 2, 8, 9]), (18, [0, 2, 8, 9, 64]), (19, [0, 1, 2, 8, 9]), (20, [0, 1, 2, 8, 9]), (21, [0, 1, 2, 8, 9, 77]), (22, [0, 1, 2, 8, 9]), (23, [0, 1, 2, 8, 9, 83]), (24, [6, 7]), (25, [0, 1, 2, 8, 9]), (26, [0, 1, 2, 8, 9, 85]), (27, [0, 1, 2, 8, 9, 10]), (28, [0, 1, 2, 8, 9, 85, 90]), (29, [0, 1, 2, 8, 9, 10]), (30, [0, 1, 2, 8, 9, 92]), (31, [0, 1, 2, 8, 9, 10]), (32, [0, 1, 8, 9, 10, 11]), (33, [0, 1, 8, 9, 10, 11, 12]), (34, [0, 1, 8, 9, 10, 11, 12, 13]), (35, [1, 8, 9, 10, 11, 12, 13, 99, 100, 101]), (36, [1, 8, 9, 10, 11, 12, 13, 99, 100, 101, 102]), (37, [1, 8, 9, 10, 11, 12, 13, 15, 99, 100, 101]), (38, [1, 8, 9, 10, 11, 12, 13, 15, 99, 100, 101]), (39, [6, 7]), (40, [1, 8, 9, 10, 11, 12, 13, 15, 99, 100, 101, 106]), (41, [1, 8, 9, 10, 11, 12, 13, 99, 100, 101]), (42, [1, 8, 9, 10, 11, 12, 13, 15, 99, 100, 101, 112]), (43, [1, 8, 9, 10, 11, 12, 13, 16, 99, 100, 101]), (44, [1, 8, 9, 10, 11, 12, 13, 15, 99, 100, 101, 121]), (45, [1, 8, 9, 10, 11, 12, 13, 16, 99, 100, 101]), (46, [1, 8, 9, 10, 11, 12, 13, 16, 99, 100, 101, 137]), (47, [6, 7]), (48, [1, 8, 9, 10, 11, 12, 13, 16, 99, 100, 101, 141]), (49, [6, 7]), (50, [1, 8, 9, 10, 11, 12, 13, 16, 99, 100, 101]), (51, [1, 8, 9, 10, 11, 12, 13, 17, 99, 100, 101]), (52, [1, 8, 9, 10, 11, 12, 17, 99, 100, 101, 159]), (53, [6, 7]), (54, [1, 8, 9, 10, 11, 12, 13, 99, 100, 101]), (55, [1, 8, 9, 10, 11, 12, 13, 99, 100, 101]), (56, [13, 169]), (57, [6, 7]), (58, [6, 7]), (1000003, [1, 8, 9, 10, 11, 12, 13, 99, 100, 101])], []⟩ Tryz.f166 = some F166 := by kernel_rfl
theorem F166_fn : FnOK2 Tryz.prog 166 (.pl F166) := .pl Tryz.func166 (by kernel_rfl) F166_ok
theorem F167_ok : prepF Tryz.prog ⟨[], [(0, [0]), (1, [0, 6]), (2, [2]), (3, [0, 3]), (4, [3]), (5, [2])], []⟩ Tryz.f167 = some F167 := by kernel_rfl
theorem F167_fn : FnOK2 Tryz.prog 167 (.pl F167) := .pl Tryz.func167 (by kernel_rfl) F167_ok
theorem F168_ok : prepF Tryz.prog ⟨[], [(0, [0]), (1, [2])], []⟩ Tryz.f168 = some F168 := by kernel_rfl
theorem F168_fn : FnOK2 Tryz.prog 168 (.pl F168) := .pl Tryz.func168 (by kernel_rfl) F168_ok
theorem F169_ok : prepF Tryz.prog ⟨[], [(0, [0, 1]), (1, [4])], []⟩ Tryz.f169 = some F169 := by kernel_rfl
theorem F169_fn : FnOK2 Tryz.prog 169 (.pl F169) := .pl Tryz.func169 (by kernel_rfl) F169_ok
theorem F170_ok : prepF Tryz.prog ⟨[], [(0, [0]), (1, [0, 3]), (2, [2]), (3, [10]), (4, [2]), (5, [2])], []⟩ Tryz.f170 = some F170 := by kernel_rfl
theorem F170_fn : FnOK2 Tryz.prog 170 (.pl F170) := .pl Tryz.func170 (by kernel_rfl) F170_ok
theorem F171_ok : prepF Tryz.prog ⟨[], [(0, [0]), (1, [2])], []⟩ Tryz.f171 = some F171 := by kernel_rfl
theorem F171_fn : FnOK2 Tryz.prog 171 (.pl F171) := .pl Tryz.func171 (by kernel_rfl) F171_ok
theorem F172_ok : prepF Tryz.prog ⟨[], [(0, [0, 2]), (1, [0, 2, 4]), (2, [0]), (3, [0, 2]), (4, [0, 2, 8]), (5, [0, 2]), (6, [0, 2]), (7, [0, 2, 14]), (8, [0, 2]), (9, [0, 2]), (10, [2])], []⟩ Tryz.f172 = some F172 := by kernel_rfl
theorem F172_fn : FnOK2 Tryz.prog 172 (.pl F172) := .pl Tryz.func172 (by kernel_rfl) F172_ok
theorem F173_ok : prepF Tryz.prog ⟨[], [(0, [0]), (1, [3]), (2, [2]), (3, [2])], []⟩ Tryz.f173 = some F173 := by kernel_rfl
theorem F173_fn : FnOK2 Tryz.prog 173 (.pl F173) := .pl Tryz.func173 (by kernel_rfl) F173_ok
theorem F174_ok : prepF Tryz.prog ⟨[], [(0, [0]), (1, [2])], []⟩ Tryz.f174 = some F174 := by kernel_rfl
theorem F174_fn : FnOK2 Tryz.prog 174 (.pl F174) := .pl Tryz.func174 (by kernel_rfl) F174_ok
theorem F175_ok : prepF Tryz.prog ⟨[], [(0, [0]), (1, [2]), (2, [2])], []⟩ Tryz.f175 = some F175 := by kernel_rfl
theorem F175_fn : FnOK2 Tryz.prog 175 (.pl F175) := .pl Tryz.func175 (by kernel_rfl) F175_ok
theorem F176_ok : prepF Tryz.prog ⟨[], [(0, [0]), (1, [2])], []⟩ Tryz.f176 = some F176 := by kernel_rfl
theorem F176_fn : FnOK2 Tryz.prog 176 (.pl F176) := .pl Tryz.func176 (by kernel_rfl) F176_ok
theorem F177_ok : prepF Tryz.prog ⟨[], [(0, [0]), (1, [0, 3]), (2, [0, 3, 4]), (3, [0, 3, 4, 18]), (4, [0, 3, 4]), (5, [0, 3, 4, 5]), (6, [0, 3, 4, 5, 46]), (7, [0, 4]), (8, [0, 3, 4]), (9, [0, 3, 4, 5]), (10, [0, 3, 4, 5, 54]), (11, [0, 3, 4, 5]), (12, [0, 3, 4, 5, 83]), (13, [0, 3, 4, 5]), (14, [0, 3, 4, 5, 87]), (15, [0, 4, 5, 89]), (16, [2]), (17, [0, 3, 4, 5]), (18, [0, 4, 5, 91]), (19, [2]), (20, [0, 3, 4, 5]), (21, [2]), (1000000, [0, 3, 4, 5])], []⟩ Tryz.f177 = some F177 := by kernel_rfl
theorem F177_fn : FnOK2 Tryz.prog 177 (.pl F177) := .pl Tryz.func177 (by kernel_rfl) F177_ok
theorem F178_ok : prepF Tryz.prog ⟨[], [(0, [0]), (1, [0, 4]), (2, [2]), (3, [2])], []⟩ Tryz.f178 = some F178 := by kernel_rfl
theorem F178_fn : FnOK2 Tryz.prog 178 (.pl F178) := .pl Tryz.func178 (by kernel_rfl) F178_ok
theorem F179_ok : prepF Tryz.prog ⟨[], [(0, [0]), (1, [0, 4]), (2, [2]), (3, [2])], []⟩ Tryz.f179 = some F179 := by kernel_rfl
theorem F179_fn : FnOK2 Tryz.prog 179 (.pl F179) := .pl Tryz.func179 (by kernel_rfl) F179_ok
def tab : List (Nat × DX) := [(3, .pl F3), (5, .pl F5), (8, .pl F8), (9, .pl F9), (10, .pl F10), (11, .pl F11), (12, .pl F12), (13, .pl F13), (14, .pl F14), (15, .pl F15), (16, .pl F16), (19, .pl F19), (21, .pl F21), (23, .pl F23), (24, .pl F24), (25, .pl F25), (26, .pl F26), (27, .pl F27), (28, .pl F28), (30, .pl F30), (32, .pl F32), (33, .pl F33), (34, .pl F34), (35, .pl F35), (36, .pl F36), (37, .pl F37), (38, .pl F38), (39, .pl F39), (40, .pl F40), (41, .pl F41), (42, .pl F42), (43, .pl F43), (47, .pl F47), (48, .pl F48), (49, .pl F49), (50, .pl F50), (51, .pl F51), (52, .pl F52), (53, .pl F53), (54, .pl F54), (56, .pl F56), (57, .pl F57), (58, .pl F58), (59, .pl F59), (60, .pl F60), (61, .pl F61), (62, .pl F62), (63, .pl F63), (66, .pl F66), (67, .pl F67), (68, .pl F68), (70, .pl F70), (71, .pl F71), (72, .pl F72), (73, .pl F73), (74, .pl F74), (75, .pl F75), (76, .pl F76), (77, .pl F77), (78, .pl F78), (80, .pl F80), (84, .pl F84), (85, .pl F85), (86, .pl F86), (87, .pl F87), (88, .pl F88), (89, .pl F89), (90, .pl F90), (91, .pl F91), (92, .pl F92), (96, .pl F96), (97, .pl F97), (98, .pl F98), (99, .pl F99), (100, .pl F100), (101, .pl F101), (102, .pl F102), (103, .pl F103), (104, .pl F104), (105, .pl F105), (106, .pl F106), (107, .pl F107), (108, .pl F108), (109, .pl F109), (111, .pl F111), (112, .pl F112), (119, .pl F119), (120, .pl F120), (121, .pl F121), (122, .pl F122), (123, .pl F123), (124, .pl F124), (125, .pl F125), (126, .pl F126), (127, .pl F127), (128, .pl F128), (129, .pl F129), (130, .pl F130), (131, .pl F131), (132, .pl F132), (133, .pl F133), (137, .pl F137), (138, .pl F138), (139, .pl F139), (140, .pl F140), (141, .pl F141), (142, .pl F142), (143, .pl F143), (144, .pl F144), (145, .pl F145), (146, .pl F146), (148, .pl F148), (149, .pl F149), (150, .pl F150), (152, .pl F152), (153, .pl F153), (154, .pl F154), (155, .pl F155), (156, .pl F156), (157, .pl F157), (158, .pl F158), (159, .pl F159), (160, .pl F160), (161, .pl F161), (162, .pl F162), (163, .pl F163), (165, .pl F165), (166, .pl F166), (167, .pl F167), (168, .pl F168), (169, .pl F169), (170, .pl F170), (171, .pl F171), (172, .pl F172), (173, .pl F173), (174, .pl F174), (175, .pl F175), (176, .pl F176), (177, .pl F177), (178, .pl F178), (179, .pl F179)]
theorem tabOK : TabOK2 Tryz.prog tab :=
  .cons F3_fn <|
  .cons F5_fn <|
  .cons F8_fn <|
  .cons F9_fn <|
  .cons F10_fn <|
  .cons F11_fn <|
  .cons F12_fn <|
  .cons F13_fn <|
  .cons F14_fn <|
  .cons F15_fn <|
  .cons F16_fn <|
  .cons F19_fn <|
  .cons F21_fn <|
  .cons F23_fn <|
  .cons F24_fn <|
  .cons F25_fn <|
  .cons F26_fn <|
  .cons F27_fn <|
  .cons F28_fn <|
  .cons F30_fn <|
  .cons F32_fn <|
  .cons F33_fn <|
  .cons F34_fn <|
  .cons F35_fn <|
  .cons F36_fn <|
  .cons F37_fn <|
  .cons F38_fn <|
  .cons F39_fn <|
  .cons F40_fn <|
  .cons F41_fn <|
  .cons F42_fn <|
  .cons F43_fn <|
  .cons F47_fn <|
  .cons F48_fn <|
  .cons F49_fn <|
  .cons F50_fn <|
  .cons F51_fn <|
  .cons F52_fn <|
  .cons F53_fn <|
  .cons F54_fn <|
  .cons F56_fn <|
  .cons F57_fn <|
  .cons F58_fn <|
  .cons F59_fn <|
  .cons F60_fn <|
  .cons F61_fn <|
  .cons F62_fn <|
  .cons F63_fn <|
  .cons F66_fn <|
  .cons F67_fn <|
  .cons F68_fn <|
  .cons F70_fn <|
  .cons F71_fn <|
  .cons F72_fn <|
  .cons F73_fn <|
  .cons F74_fn <|
  .cons F75_fn <|
  .cons F76_fn <|
  .cons F77_fn <|
  .cons F78_fn <|
  .cons F80_fn <|
  .cons F84_fn <|
  .cons F85_fn <|
  .cons F86_fn <|
  .cons F87_fn <|
  .cons F88_fn <|
  .cons F89_fn <|
  .cons F90_fn <|
  .cons F91_fn <|
  .cons F92_fn <|
  .cons F96_fn <|
  .cons F97_fn <|
  .cons F98_fn <|
  .cons F99_fn <|
  .cons F100_fn <|
  .cons F101_fn <|
  .cons F102_fn <|
  .cons F103_fn <|
  .cons F104_fn <|
  .cons F105_fn <|
  .cons F106_fn <|
  .cons F107_fn <|
  .cons F108_fn <|
  .cons F109_fn <|
  .cons F111_fn <|
  .cons F112_fn <|
  .cons F119_fn <|
  .cons F120_fn <|
  .cons F121_fn <|
  .cons F122_fn <|
  .cons F123_fn <|
  .cons F124_fn <|
  .cons F125_fn <|
  .cons F126_fn <|
  .cons F127_fn <|
  .cons F128_fn <|
  .cons F129_fn <|
  .cons F130_fn <|
  .cons F131_fn <|
  .cons F132_fn <|
  .cons F133_fn <|
  .cons F137_fn <|
  .cons F138_fn <|
  .cons F139_fn <|
  .cons F140_fn <|
  .cons F141_fn <|
  .cons F142_fn <|
  .cons F143_fn <|
  .cons F144_fn <|
  .cons F145_fn <|
  .cons F146_fn <|
  .cons F148_fn <|
  .cons F149_fn <|
  .cons F150_fn <|
  .cons F152_fn <|
  .cons F153_fn <|
  .cons F154_fn <|
  .cons F155_fn <|
  .cons F156_fn <|
  .cons F157_fn <|
  .cons F158_fn <|
  .cons F159_fn <|
  .cons F160_fn <|
  .cons F161_fn <|
  .cons F162_fn <|
  .cons F163_fn <|
  .cons F165_fn <|
  .cons F166_fn <|
  .cons F167_fn <|
  .cons F168_fn <|
  .cons F169_fn <|
  .cons F170_fn <|
  .cons F171_fn <|
  .cons F172_fn <|
  .cons F173_fn <|
  .cons F174_fn <|
  .cons F175_fn <|
  .cons F176_fn <|
  .cons F177_fn <|
  .cons F178_fn <|
  .cons F179_fn <|
  .nil
end Go.Proofs.C1
