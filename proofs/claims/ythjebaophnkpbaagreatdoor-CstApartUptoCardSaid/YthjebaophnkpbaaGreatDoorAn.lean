/- The entry, with the bulk of what is read; slices as pure data. The entry of chapter 4's laws: what is read, as nodes; that they are right where little is read. The code is the program's, printed by a program (Gen). -/
import Derived.Test.YthjebaophnkpbaaGreatDoorProg
import Derived.Test.YthjebaophnkpbaaGreatDoorAm
set_option linter.unusedSimpArgs false
set_option linter.unusedVariables false
namespace Go.Dn
open Go Go.RowKit

mutual
/-- how many values and letters -/
def bulkA : AV → Nat
  | .str s => s.length + 1
  | .sl _ _ xs => bulkAs xs + 1
  | .agg cs => bulkAs cs + 1
  | _ => 1
def bulkAs : List AV → Nat
  | [] => 0
  | x :: r => bulkA x + bulkAs r
end

theorem bulkAs_app (a b : List AV) : bulkAs (a ++ b) = bulkAs a + bulkAs b := by
  induction a with
  | nil => simp [bulkAs]
  | cons x r ih => simp only [List.cons_append, bulkAs, ih]; omega

/-- a bulk of data -/
structure IsUb {H : Type} (ub : DataW H → Nat) (ubAll : List (DataW H) → Nat) : Prop where
  lit : ∀ l, 1 ≤ ub (.lit l)
  str : ∀ s, s.length + 1 ≤ ub (.lit (.string s))
  nil : 1 ≤ ub .nil
  slice : ∀ a b, ub (.slice a b) = ubAll a + ubAll b + 1
  agg : ∀ a, ub (.agg a) = ubAll a + 1
  none : ubAll [] = 0
  cons : ∀ d r, ubAll (d :: r) = ub d + ubAll r

def sb (P : Program) (t : TypeId) : Nat := match P.underlying t with
  | some (.struct _) => 1
  | _ => 0

/-- cells of a type that has no pointers, maps, functions, interfaces in it, as pure data -/
def AVB (P : Program) : Nat → TypeId → List AV → Prop
  | 0, _, _ => False
  | d + 1, t, xs => match P.underlying t with
    | some .bool => ∃ b, xs = [.bool b]
    | some (.int k) => ∃ n, xs = [.int k n] ∧ (Lit.int k n).wf = true
    | some .string => ∃ s, xs = [.str s] ∧ s.length ≤ maxLen
    | some (.slice e) => ∃ ys, xs = [.sl (P.cellsOf e) stat ys] ∧ ∀ y ∈ ys, AVB P d e y.cells ∧ (isAggP P e = some true → ∃ cs, y = .agg cs) ∧ (isAggP P e = some false → y.cells = [y])
    | some (.struct fs) => xs.length = P.cellsOf t ∧ ∀ f ∈ fs.toList, AVB P d f.type ((xs.drop f.offset).take (P.cellsOf f.type))
    | _ => False

section
variable {P : Program} {W : World} {H : Type} {enc : TypeId × Value → H}

/-- one element -/
theorem elem_avb {g : Bool} {e : TypeId} {d : Nat} (hg : isAggP P e = some g) {cs : List Value} {xs : List AV} (hr : Rl St.init (G0 W) W xs cs) (ht : AVB P d e xs) :
    ∃ y v, y.cells = xs ∧ v.cells.toList = cs ∧ Rv St.init (G0 W) W y v ∧ (g = true → ∃ zs, y = .agg zs) ∧ (g = false → y.cells = [y]) := by
  cases g with
  | true => exact ⟨.agg xs, .agg ⟨cs⟩, rfl, rfl, by simp only [Rv]; exact ⟨_, rfl, hr⟩, fun _ => ⟨_, rfl⟩, fun h => by cases h⟩
  | false =>
    have hone : ∃ x, xs = [x] ∧ x.cells = [x] ∧ ∀ zs, x ≠ .agg zs := by
      cases d with
      | zero => exact ht.elim
      | succ d =>
        unfold AVB at ht
        unfold isAggP at hg
        split at ht
        · obtain ⟨b, rfl⟩ := ht; exact ⟨_, rfl, rfl, fun zs h => by cases h⟩
        · obtain ⟨n, rfl, _⟩ := ht; exact ⟨_, rfl, rfl, fun zs h => by cases h⟩
        · obtain ⟨s, rfl, _⟩ := ht; exact ⟨_, rfl, rfl, fun zs h => by cases h⟩
        · obtain ⟨ys, rfl, _⟩ := ht; exact ⟨_, rfl, rfl, fun zs h => by cases h⟩
        · rename_i fs hu; rw [hu] at hg; cases hg
        · exact ht.elim
    obtain ⟨x, rfl, hx, hna⟩ := hone
    simp only [Rl] at hr
    obtain ⟨v, r, rfl, hv, rfl⟩ := hr
    refine ⟨x, v, hx, ?_, hv, (fun h => by cases h), fun _ => hx⟩
    rw [Value.cells_of_not_agg (hv.not_agg hna)]

theorem fields_avb {ub : DataW H → Nat} {ubAll : List (DataW H) → Nat} (hub : IsUb ub ubAll) {d : Nat} : ∀ (fs : List Field) (ds : List (DataW H)) (n m : Nat) (cs : List Value), fieldsAt P fs n = some m → cs.length = m → ds.length = fs.length →
    (∀ (i : Nat) (f : Field), fs[i]? = some f → ∃ (dd : DataW H) (xs : List AV), ds[i]? = some dd ∧ Rl St.init (G0 W) W xs ((cs.drop f.offset).take (P.cellsOf f.type)) ∧ AVB P d f.type xs ∧ bulkAs xs ≤ ub dd) →
    n ≤ m ∧ (∀ f ∈ fs, n ≤ f.offset) ∧ ∃ xs, Rl St.init (G0 W) W xs (cs.drop n) ∧ (∀ f ∈ fs, AVB P d f.type ((xs.drop (f.offset - n)).take (P.cellsOf f.type))) ∧ bulkAs xs ≤ ubAll ds
  | [], ds, n, m, cs, h, hl, _, _ => by
    simp only [fieldsAt, Option.some.injEq] at h
    subst h
    refine ⟨Nat.le_refl _, fun f hf => (by cases hf), [], ?_, fun f hf => (by cases hf), by simp [bulkAs]⟩
    rw [List.drop_of_length_le (by omega)]
    exact Rl.nil
  | f :: r, [], n, m, cs, h, hl, hd, hf => by simp at hd
  | f :: r, d0 :: ds, n, m, cs, h, hl, hd, hf => by
    simp only [fieldsAt] at h
    split at h
    · rename_i ho
      obtain ⟨h1, h2, xr, h3, h4, h5⟩ := fields_avb hub r ds _ m cs h hl (by simpa using hd) fun i g hg => by simpa using hf (i + 1) g (by simpa using hg)
      obtain ⟨dd, xf, e0, g1, g2, g3⟩ := hf 0 f rfl
      simp only [List.getElem?_cons_zero, Option.some.injEq] at e0
      subst e0
      rw [ho] at g1
      have hxf : xf.length = P.cellsOf f.type := by
        have := g1.length
        rw [List.length_take, List.length_drop] at this
        omega
      refine ⟨by omega, fun g hg => ?_, xf ++ xr, ?_, fun g hg => ?_, by rw [bulkAs_app, hub.cons]; omega⟩
      · rcases List.mem_cons.1 hg with rfl | hg
        · omega
        · have := h2 g hg; omega
      · have := g1.append h3
        rwa [← List.drop_drop, List.take_append_drop] at this
      · rcases List.mem_cons.1 hg with rfl | hg
        · rw [ho, Nat.sub_self, List.drop_zero, List.take_append_of_le_length (by omega), List.take_of_length_le (by omega)]
          exact g2
        · have hgo := h2 g hg
          have := h4 g hg
          rw [List.drop_append, List.drop_of_length_le (by omega), List.nil_append, hxf, show g.offset - n - P.cellsOf f.type = g.offset - (n + P.cellsOf f.type) by omega]
          exact this
    · cases h

theorem trod_avb {ub : DataW H → Nat} {ubAll : List (DataW H) → Nat} (hub : IsUb ub ubAll) {L : List TypeId} (hL : okTypes P L = true) : ∀ (fuel : Nat) (t : TypeId) (cs : List Value) (x : DataW H × List MemPlace), t ∈ L → DataW.trod enc P W 0 (fun _ => true) true fuel t cs = some x →
    ∃ xs, Rl St.init (G0 W) W xs cs ∧ AVB P fuel t xs ∧ bulkAs xs + sb P t ≤ ub x.1
  | 0, _, _, _, _, h => by simp [DataW.trod] at h
  | fuel + 1, t, cs, x, ht, h => by
    have hok := List.all_eq_true.1 hL t ht
    unfold okType at hok
    unfold AVB
    have hsb : ∀ {td}, P.underlying t = some td → sb P t = match td with | .struct _ => 1 | _ => 0 := fun {td} h => by unfold sb; rw [h]; cases td <;> rfl
    cases hu : P.underlying t with
    | none => rw [hu] at hok; cases hok
    | some td =>
    rw [hu] at hok
    cases td <;> simp only [Bool.false_eq_true] at hok
    case bool =>
      obtain ⟨b, rfl, rfl⟩ := DataW.trod_bool hu h
      exact ⟨[.bool b], Rl.cons (by simp only [Rv]) Rl.nil, ⟨b, rfl⟩, by rw [hsb hu]; have := hub.lit (.bool b); simp only [bulkAs, bulkA]; omega⟩
    case int k =>
      obtain ⟨n, rfl, rfl, hwf⟩ := DataW.trod_int hu h
      exact ⟨[.int k n], Rl.cons (by simp only [Rv]) Rl.nil, ⟨n, rfl, hwf⟩, by rw [hsb hu]; have := hub.lit (.int k n); simp only [bulkAs, bulkA]; omega⟩
    case string =>
      obtain ⟨s, rfl, rfl, hs⟩ := DataW.trod_string hu h
      exact ⟨[.str s.data.toList], Rl.cons (by simp only [Rv]) Rl.nil, ⟨_, rfl, by simpa using hs⟩, by rw [hsb hu]; have := hub.str s.data.toList; simp only [bulkAs, bulkA]; omega⟩
    case slice e =>
      simp only [Bool.and_eq_true] at hok
      have heL := any_mem hok.1
      have hc0 := blt_lt hok.2
      rcases DataW.trod_slice hu h with ⟨rfl, rfl⟩ | ⟨a, len, cap, elems, rest, n, hn, rfl, hx, _, hl, hm, hlen, hel, hsp, _⟩
      · refine ⟨[.sl (P.cellsOf e) stat []], Rl.cons ?_ Rl.nil, ⟨[], rfl, fun y hy => by cases hy⟩, by rw [hsb hu]; have := hub.nil; simp only [bulkAs, bulkA]; omega⟩
        simp only [Rv]
        exact ⟨none, 0, 0, rfl, ⟨rfl, Nat.le_refl _, by simp [stat], (fun c hc => by cases hc), (fun _ => rfl), (fun p hp => by cases hp)⟩, (fun _ p hp => by cases hp)⟩
      · cases hn
        obtain ⟨hrl, hrest⟩ := hsp rfl
        subst hx
        -- every element's cells
        have cellsAt : ∀ i, i < cap → ∃ cs' y, W.cells? 0 (a.add (i * P.cellsOf e)) (P.cellsOf e) = some cs' ∧ DataW.trod enc P W 0 (fun _ => true) true fuel e cs' = some y := fun i hi => by
          have : ∃ y, (W.cells? 0 (a.add (i * P.cellsOf e)) (P.cellsOf e)).bind (DataW.trod enc P W 0 (fun _ => true) true fuel e) = some y := by
            by_cases h' : i < len
            · exact ⟨_, (hel i h').trans (List.getElem?_eq_getElem (by omega))⟩
            · have := hrest (i - len) (by omega)
              rw [show len + (i - len) = i by omega] at this
              exact ⟨_, this.trans (List.getElem?_eq_getElem (by omega))⟩
          obtain ⟨y, hy⟩ := this
          obtain ⟨cs', e1, e2⟩ := Option.bind_eq_some_iff.1 hy
          exact ⟨cs', y, e1, e2⟩
        have hge : ∃ g, isAggP P e = some g := by
          have := List.all_eq_true.1 hL e heL
          unfold okType at this
          unfold isAggP
          split at this <;> first | (cases this; done) | skip
          all_goals rename_i hh; rw [hh]; exact ⟨_, rfl⟩
        obtain ⟨g, hg⟩ := hge
        have hspot : 0 < cap → a.spot = none := fun hc => by
          obtain ⟨cs', y, e1, _⟩ := cellsAt 0 hc
          obtain ⟨l1, l2⟩ := cells_get e1
          have := l2 0 hc0
          rw [Nat.zero_mul] at this
          have ha : (a.add 0).add 0 = a := by simp [Addr.add]
          rw [ha] at this
          cases hs : a.spot with
          | none => rfl
          | some s =>
            exfalso
            have h0 : cs'[0]? = some cs'[0] := List.getElem?_eq_getElem (by omega)
            rw [h0] at this
            unfold World.cell? at this
            split at this
            · simp [hs] at this
            · cases this
        have cellAt : ∀ i, i < cap → ∃ cs', cs'.length = P.cellsOf e ∧ (∀ j, j < P.cellsOf e → W.cell? ⟨a.block, a.off + i * P.cellsOf e + j, none⟩ = cs'[j]?) ∧ ∃ y, DataW.trod enc P W 0 (fun _ => true) true fuel e cs' = some y := fun i hi => by
          obtain ⟨cs', y, e1, e2⟩ := cellsAt i hi
          obtain ⟨l1, l2⟩ := cells_get e1
          refine ⟨cs', l1, fun j hj => ?_, y, e2⟩
          rw [← l2 j hj]
          have hs := hspot (by omega)
          obtain ⟨ab, ao, asp⟩ := a
          simp only at hs
          subst hs
          rw [add_none, add_none]
        obtain ⟨ys, hy1, hy2⟩ := seq_ex (n := len) (R := fun i y => (∃ d, elems[i]? = some d ∧ bulkA y ≤ ub d.1) ∧ AVB P fuel e y.cells ∧ ((isAggP P e = some true → ∃ zs, y = .agg zs) ∧ (isAggP P e = some false → y.cells = [y])) ∧ ∃ v, Rv St.init (G0 W) W y v ∧ v.cells.size = P.cellsOf e ∧ ∀ j, j < P.cellsOf e → W.cell? ⟨a.block, a.off + i * P.cellsOf e + j, none⟩ = v.cells[j]?) fun i hi => by
          have hq := (hel i hi).trans (List.getElem?_eq_getElem (by omega))
          obtain ⟨cs0, e1, e2⟩ := Option.bind_eq_some_iff.1 hq
          obtain ⟨cs', l1, l2, _⟩ := cellAt i (by omega)
          have hcs : cs' = cs0 := by
            obtain ⟨m1, m2⟩ := cells_get e1
            apply List.ext_getElem? 
            intro j
            by_cases hj : j < P.cellsOf e
            · rw [← l2 j hj, ← m2 j hj]
              have hs := hspot (by omega)
              obtain ⟨ab, ao, asp⟩ := a
              simp only at hs
              subst hs
              rw [add_none, add_none]
            · rw [List.getElem?_eq_none (by omega), List.getElem?_eq_none (by omega)]
          subst hcs
          obtain ⟨xs, r1, r2, r3⟩ := trod_avb hub hL fuel e cs' _ heL e2
          obtain ⟨z, v, z1, z2, z3, z4, z5⟩ := elem_avb hg r1 r2
          refine ⟨z, ⟨_, List.getElem?_eq_getElem (by omega), ?_⟩, by rw [z1]; exact r2, ⟨fun h' => z4 (by rw [hg] at h'; cases h'; rfl), fun h' => z5 (by rw [hg] at h'; cases h'; rfl)⟩, v, z3, ?_, fun j hj => ?_⟩
          · cases g with
            | true =>
              obtain ⟨zs, rfl⟩ := z4 rfl
              have hs1 : sb P e = 1 := by
                unfold isAggP at hg
                unfold sb
                split at hg <;> first | (cases hg; done) | skip
                all_goals (rename_i hh; rw [hh])
                all_goals (have hqq := List.all_eq_true.1 hL e heL; unfold okType at hqq; rw [hh] at hqq; cases hqq)
              rw [← z1] at r3
              simp only [AV.cells] at r3
              simp only [bulkA]
              omega
            | false =>
              have := z5 rfl
              rw [z1] at this
              rw [this] at r3
              simp only [bulkAs] at r3
              omega
          · rw [← l1, ← z2]; simp
          · rw [l2 j hj, ← z2]; simp
        refine ⟨[.sl (P.cellsOf e) stat ys], Rl.cons ?_ Rl.nil, ⟨ys, rfl, fun y hy => ?_⟩, ?_⟩
        · simp only [Rv]
          refine ⟨some a, len, cap, rfl, ⟨hy1.symm, hl, by simp [stat], (fun c hc => by cases hc), (fun hc => by cases hc), fun p hp hc => ?_⟩, fun _ p hp => ?_⟩
          · cases hp
            obtain ⟨cs', l1, l2, _⟩ := cellAt (cap - 1) (by omega)
            have hlast := l2 (P.cellsOf e - 1) (by omega)
            rw [List.getElem?_eq_getElem (by omega)] at hlast
            unfold World.cell? at hlast
            split at hlast
            · rename_i c ty fr hb
              simp only [Option.isSome_none, Bool.false_eq_true, if_false] at hlast
              have hlt := (Array.getElem?_eq_some_iff.1 hlast).1
              refine ⟨hc0, hspot hc, ⟨ty, c.size, by simp [World.shape?, hb], ?_⟩, ?_⟩
              · have : cap * P.cellsOf e = (cap - 1) * P.cellsOf e + P.cellsOf e := by
                  rw [← Nat.succ_mul]; congr 1; omega
                omega
              · rw [rd_none rfl]
                exact (Array.getElem?_eq_some_iff.1 hb).1
            · cases hlast
          · cases hp
            exact Rat_of_get fun i y hy => (hy2 i y hy).2.2.2
        · obtain ⟨i, hi⟩ := List.getElem?_of_mem hy
          exact ⟨(hy2 i y hi).2.1, (hy2 i y hi).2.2.1⟩
        · have hle : bulkAs ys ≤ ubAll (elems.map (·.1)) := by
            have key : ∀ (ys : List AV) (ds : List (DataW H × List MemPlace)), ys.length = ds.length → (∀ (i : Nat) (y : AV), ys[i]? = some y → ∃ d : DataW H × List MemPlace, ds[i]? = some d ∧ bulkA y ≤ ub d.1) → bulkAs ys ≤ ubAll (ds.map (·.1)) := by
              intro ys
              induction ys with
              | nil => intro ds _ _; simp [bulkAs]
              | cons y r ih =>
                intro ds hl hh
                cases ds with
                | nil => simp at hl
                | cons d q =>
                  obtain ⟨d', e1, e2⟩ := hh 0 y rfl
                  simp only [List.getElem?_cons_zero, Option.some.injEq] at e1
                  subst e1
                  have := ih q (by simpa using hl) fun i z hz => by simpa using hh (i + 1) z (by simpa using hz)
                  simp only [bulkAs, List.map_cons, hub.cons]
                  omega
            exact key ys elems (by rw [hy1, hlen]) fun i y hy => (hy2 i y hy).1
          rw [hsb hu]
          simp only [bulkAs, bulkA, hub.slice]
          omega
    case struct fs =>
      simp only [Bool.and_eq_true, decide_eq_true_eq] at hok
      obtain ⟨xs, n, hn, hx, hlen, hxl, hfs⟩ := DataW.trod_struct hu h
      cases hn
      subst hx
      obtain ⟨_, _, zs, z1, z2, z3⟩ := fields_avb (P := P) (W := W) (d := fuel) hub fs.toList (xs.map (·.1)) 0 _ cs hok.2 hlen (by simp [hxl]) fun i f hi => by
        have hi' : fs[i]? = some f := by simpa using hi
        have := hfs i f hi'
        have hlt : i < xs.length := by
          rw [hxl]
          exact (Array.getElem?_eq_some_iff.1 hi').1
        rw [List.getElem?_eq_getElem hlt] at this
        have hmem : f ∈ fs.toList := List.mem_of_getElem? hi
        obtain ⟨ys, r1, r2, r3⟩ := trod_avb hub hL fuel f.type _ _ (any_mem (List.all_eq_true.1 hok.1 f hmem)) this
        exact ⟨xs[i].1, ys, by simp [hlt], r1, r2, by omega⟩
      rw [List.drop_zero] at z1
      refine ⟨zs, z1, ⟨by rw [← hlen, z1.length], z2⟩, ?_⟩
      rw [hsb hu]
      simp only [hub.agg]
      omega
end
end Go.Dn

namespace Go.Proofs.YthjebaophnkpbaaGreatDoor
open Go.Dn

theorem c_int : Tryz.prog.cellsOf 3 = 1 := by kernel_rfl
theorem c_str : Tryz.prog.cellsOf 9 = 1 := by kernel_rfl
theorem c_strs : Tryz.prog.cellsOf 22 = 1 := by kernel_rfl
theorem c_trees : Tryz.prog.cellsOf 23 = 1 := by kernel_rfl
theorem c_tree : Tryz.prog.cellsOf 25 = 4 := by kernel_rfl
theorem c_nodes : Tryz.prog.cellsOf 26 = 1 := by kernel_rfl
theorem c_node : Tryz.prog.cellsOf 28 = 14 := by kernel_rfl
theorem a_str : isAggP Tryz.prog 9 = some false := by kernel_rfl
theorem a_tree : isAggP Tryz.prog 25 = some true := by kernel_rfl
theorem a_node : isAggP Tryz.prog 28 = some true := by kernel_rfl
theorem u_int : Tryz.prog.underlying 3 = some (.int .i64) := by kernel_rfl
theorem u_str : Tryz.prog.underlying 9 = some .string := by kernel_rfl
theorem u_strs : Tryz.prog.underlying 22 = some (.slice 9) := by kernel_rfl
theorem u_trees : Tryz.prog.underlying 23 = some (.slice 25) := by kernel_rfl
theorem u_nodes : Tryz.prog.underlying 26 = some (.slice 28) := by kernel_rfl

theorem av_int {d : Nat} {x : AV} (h : AVB Tryz.prog d 3 [x]) : ∃ n, x = .int .i64 n := by
  cases d with
  | zero => exact h.elim
  | succ d =>
    unfold AVB at h
    rw [u_int] at h
    obtain ⟨n, e, _⟩ := h
    cases e
    exact ⟨n, rfl⟩

theorem av_str {d : Nat} {x : AV} (h : AVB Tryz.prog d 9 [x]) : ∃ s, x = .str s := by
  cases d with
  | zero => exact h.elim
  | succ d =>
    unfold AVB at h
    rw [u_str] at h
    obtain ⟨n, e, _⟩ := h
    cases e
    exact ⟨n, rfl⟩

theorem av_strs {d : Nat} {x : AV} (h : AVB Tryz.prog d 22 [x]) : ∃ l, x = .sl 1 stat (strs l) := by
  cases d with
  | zero => exact h.elim
  | succ d =>
    unfold AVB at h
    rw [u_strs] at h
    obtain ⟨ys, e, h2⟩ := h
    cases e
    rw [c_str]
    have : ∃ l, ys = strs l := by
      induction ys with
      | nil => exact ⟨[], rfl⟩
      | cons y r ih =>
        obtain ⟨l, hl⟩ := ih fun z hz => h2 z (by simp [hz])
        obtain ⟨k1, _, k3⟩ := h2 y (by simp)
        rw [k3 a_str] at k1
        obtain ⟨s, rfl⟩ := av_str k1
        exact ⟨s :: l, by rw [hl]; rfl⟩
    obtain ⟨l, rfl⟩ := this
    exact ⟨l, rfl⟩

theorem list_trees {ys : List AV} (h : ∀ y ∈ ys, ∃ t : PT, y = encT t) : ∃ l, ys = encTs l := by
  induction ys with
  | nil => exact ⟨[], rfl⟩
  | cons y r ih =>
    obtain ⟨l, h1⟩ := ih fun z hz => h z (by simp [hz])
    obtain ⟨t, h3⟩ := h y (by simp)
    exact ⟨t :: l, by rw [h1, h3]; rfl⟩
theorem list_nodes {ys : List AV} (h : ∀ y ∈ ys, ∃ t : PN, y = encN t) : ∃ l, ys = encNs l := by
  induction ys with
  | nil => exact ⟨[], rfl⟩
  | cons y r ih =>
    obtain ⟨l, h1⟩ := ih fun z hz => h z (by simp [hz])
    obtain ⟨t, h3⟩ := h y (by simp)
    exact ⟨t :: l, by rw [h1, h3]; rfl⟩
theorem four {α : Type} {l : List α} (h : l.length = 4) : ∃ a b c d, l = [a, b, c, d] := by
  match l, h with
  | [a, b, c, d], _ => exact ⟨a, b, c, d, rfl⟩
theorem two {α : Type} {l : List α} (h : l.length = 2) : ∃ a b, l = [a, b] := by
  match l, h with
  | [a, b], _ => exact ⟨a, b, rfl⟩
theorem fourteen {α : Type} {l : List α} (h : l.length = 14) : ∃ a0 a1 a2 a3 a4 a5 a6 a7 a8 a9 a10 a11 a12 a13, l = [a0, a1, a2, a3, a4, a5, a6, a7, a8, a9, a10, a11, a12, a13] := by
  match l, h with
  | [a0, a1, a2, a3, a4, a5, a6, a7, a8, a9, a10, a11, a12, a13], _ => exact ⟨a0, a1, a2, a3, a4, a5, a6, a7, a8, a9, a10, a11, a12, a13, rfl⟩

set_option maxRecDepth 100000 in
theorem av_tree : ∀ {d : Nat} {xs : List AV}, AVB Tryz.prog d 25 xs → ∃ t : PT, .agg xs = encT t := by
  intro d
  induction d using Nat.strongRecOn with
  | _ d ih =>
  intro xs h
  cases d with
  | zero => exact h.elim
  | succ d =>
    unfold AVB at h
    rw [Tryz.underlying25] at h
    obtain ⟨hl, h⟩ := h
    rw [c_tree] at hl
    obtain ⟨x0, x1, x2, x3, rfl⟩ := four hl
    simp only [List.forall_mem_cons] at h
    simp only [c_int, c_str, c_strs, c_trees] at h
    obtain ⟨f0, f1, f2, f3, _⟩ := h
    obtain ⟨k, rfl⟩ := av_int f0
    obtain ⟨s, rfl⟩ := av_str f1
    obtain ⟨keys, rfl⟩ := av_strs f2
    cases d with
    | zero => exact f3.elim
    | succ d =>
      unfold AVB at f3
      rw [u_trees] at f3
      obtain ⟨ys, e, g2⟩ := f3
      cases e
      obtain ⟨kids, rfl⟩ := list_trees (ys := ys) fun y hy => by
        obtain ⟨k1, k2, _⟩ := g2 y hy
        obtain ⟨cs, rfl⟩ := k2 a_tree
        exact ih d (by omega) k1
      refine ⟨.mk k s keys kids, ?_⟩
      simp only [encT]
      rw [c_tree]

set_option maxRecDepth 100000 in
theorem av_node : ∀ {d : Nat} {xs : List AV}, AVB Tryz.prog d 28 xs → ∃ t : PN, .agg xs = encN t := by
  intro d
  induction d using Nat.strongRecOn with
  | _ d ih =>
  intro xs h
  cases d with
  | zero => exact h.elim
  | succ d =>
    unfold AVB at h
    rw [Tryz.underlying28] at h
    obtain ⟨hl, h⟩ := h
    rw [c_node] at hl
    obtain ⟨a0, a1, a2, a3, a4, a5, a6, a7, a8, a9, a10, a11, a12, a13, rfl⟩ := fourteen hl
    simp only [List.forall_mem_cons] at h
    simp only [c_int, c_str, c_strs, c_tree, c_nodes] at h
    obtain ⟨f0, f1, f2, f3, f4, f8, f9, f10, f11, f12, f13, _⟩ := h
    obtain ⟨k, rfl⟩ := av_int f0
    obtain ⟨a, rfl⟩ := av_str f1
    obtain ⟨b, rfl⟩ := av_str f2
    obtain ⟨c, rfl⟩ := av_str f3
    obtain ⟨leaf, hlf⟩ := av_tree f4
    obtain ⟨h8, rfl⟩ := av_str f8
    obtain ⟨seps, rfl⟩ := av_strs f10
    obtain ⟨t, rfl⟩ := av_str f11
    obtain ⟨e, rfl⟩ := av_str f12
    obtain ⟨f, rfl⟩ := av_int f13
    cases d with
    | zero => exact f9.elim
    | succ d =>
      unfold AVB at f9
      rw [u_nodes] at f9
      obtain ⟨ys, e9, g2⟩ := f9
      cases e9
      obtain ⟨kids, rfl⟩ := list_nodes (ys := ys) fun y hy => by
        obtain ⟨k1, k2, _⟩ := g2 y hy
        obtain ⟨cs, rfl⟩ := k2 a_node
        exact ih d (by omega) k1
      refine ⟨.mk k a b c leaf h8 kids seps t e f, ?_⟩
      rw [encT_eq] at hlf
      simp only [List.drop_succ_cons, List.drop_zero, List.take_succ_cons, List.take_zero, AV.agg.injEq, List.cons.injEq, and_true] at hlf
      obtain ⟨rfl, rfl, rfl, rfl⟩ := hlf
      simp only [encN]
      rw [c_node]

/-! ### how great -/
theorem bulk_strs0 (l : List (List UInt8)) : l.length ≤ bulkAs (strs l) := by
  induction l with
  | nil => exact Nat.zero_le _
  | cons a r ih =>
    have : strs (a :: r) = .str a :: strs r := rfl
    rw [this]
    simp only [bulkAs, bulkA, List.length_cons]; omega

mutual
theorem bulk_T : ∀ t : PT, bulkA (encT t) ≤ 1048576 → t.ok
  | .mk k s keys kids, h => by
    simp only [encT, bulkA, bulkAs] at h
    have h1 := bulk_strs0 keys
    have h2 := bulk_Ts kids (by omega)
    simp only [PT.ok]
    exact ⟨by omega, by omega, h2.1⟩
theorem bulk_Ts : ∀ l : List PT, bulkAs (encTs l) ≤ 1048576 → PT.oks l ∧ l.length ≤ bulkAs (encTs l)
  | [], _ => ⟨trivial, Nat.zero_le _⟩
  | t :: r, h => by
    simp only [encTs, bulkAs] at h
    have h1 := bulk_T t (by omega)
    have h2 := bulk_Ts r (by omega)
    have : 1 ≤ bulkA (encT t) := by cases t; simp only [encT, bulkA]; omega
    simp only [PT.oks, encTs, bulkAs, List.length_cons]
    exact ⟨⟨h1, h2.1⟩, by omega⟩
end

mutual
theorem bulk_N0 : ∀ t : PN, bulkA (encN t) ≤ 1048576 → t.ok
  | .mk k a b c leaf h kids seps t e f, hb => by
    have hl : bulkA (encT leaf) ≤ 1048576 := by
      rw [encT_eq]
      simp only [encN, bulkA, bulkAs] at hb ⊢
      omega
    simp only [encN, bulkA, bulkAs] at hb ⊢
    have h1 := bulk_strs0 seps
    have h2 := bulk_Ns0 kids (by omega)
    simp only [PN.ok]
    exact ⟨bulk_T leaf hl, by omega, by omega, h2.1⟩
theorem bulk_Ns0 : ∀ l : List PN, bulkAs (encNs l) ≤ 1048576 → PN.oks l ∧ l.length ≤ bulkAs (encNs l)
  | [], _ => ⟨trivial, Nat.zero_le _⟩
  | t :: r, h => by
    simp only [encNs, bulkAs] at h
    have h1 := bulk_N0 t (by omega)
    have h2 := bulk_Ns0 r (by omega)
    have : 1 ≤ bulkA (encN t) := by cases t; simp only [encN, bulkA]; omega
    simp only [PN.oks, encNs, bulkAs, List.length_cons]
    exact ⟨⟨h1, h2.1⟩, by omega⟩
end
end Go.Proofs.YthjebaophnkpbaaGreatDoor

namespace Go.Proofs.C1
open Go Go.Dn
set_option maxRecDepth 100000
theorem F3_ok : prepF Tryz.prog ⟨[1, 2, 6, 9, 12, 108], [(0, []), (1, [1]), (2, [1, 2, 3]), (3, [1, 3, 4, 5]), (4, [1, 55]), (5, [0]), (6, [1, 6, 7, 8]), (7, [1, 6, 7, 8, 9, 10, 11]), (8, [1, 6, 7, 8, 9, 10, 11, 14]), (9, [1, 107]), (10, [0]), (11, [1, 109]), (12, [1, 121, 122, 124]), (13, [1]), (14, [1]), (15, [1]), (16, [1, 3]), (17, [0])], [(14, [(some 1), (some 1), (some 1), (some 1), none, none, none, (some 1), (some 1), none, none, none, none, none, none, none, none, none, none]), (12, [(some 1), (some 1), none, none, none, (some 1), (some 1), none, none, none, none, none, none, none, none, none, none, none]), (11, [none, (some 108), (some 108), (some 108)])]⟩ Tryz.f3 = some F3 := by kernel_rfl
theorem F3_fn : FnOK2 Tryz.prog 3 (.pl F3) := .pl Tryz.func3 (by kernel_rfl) F3_ok
theorem F6_ok : prepF Tryz.prog ⟨[1, 3, 4], [(0, [1]), (1, [1, 10]), (2, [2]), (3, [1, 3]), (4, [1, 3, 4]), (5, [1, 3, 4, 5]), (6, [1, 3, 4, 5, 20]), (7, [1, 3, 4, 5]), (8, [1, 3, 4, 5]), (9, [1, 3, 4, 5]), (10, [1, 3, 4, 6]), (11, [1, 3, 4, 6, 37]), (12, [1, 3, 4, 6]), (13, [1, 3, 4, 6]), (14, [1, 3, 4, 7]), (15, [1, 3, 4, 7, 49]), (16, [1, 3, 4, 7]), (17, [1, 3, 4, 7]), (18, [2]), (1000000, [1, 3, 4, 5]), (1000002, [1, 3, 4, 6]), (1000004, [1, 3, 4, 7])], []⟩ Tryz.f6 = some F6 := by kernel_rfl
theorem F6_fn : FnOK2 Tryz.prog 6 (.pl F6) := .pl Tryz.func6 (by kernel_rfl) F6_ok
theorem F8_ok : prepF Tryz.prog ⟨[0, 1, 2, 3], [(0, [0]), (1, [0, 1]), (2, [0, 1, 2]), (3, [0, 1, 3]), (4, [0])], []⟩ Tryz.f8 = some F8 := by kernel_rfl
theorem F8_fn : FnOK2 Tryz.prog 8 (.pl F8) := .pl Tryz.func8 (by kernel_rfl) F8_ok
theorem F9_ok : prepF Tryz.prog ⟨[1, 2], [(0, [1, 2]), (1, [1, 2, 6]), (2, [2, 3]), (3, [2, 3])], []⟩ Tryz.f9 = some F9 := by kernel_rfl
theorem F9_fn : FnOK2 Tryz.prog 9 (.pl F9) := .pl Tryz.func9 (by kernel_rfl) F9_ok
theorem F10_ok : prepF Tryz.prog ⟨[1], [(0, [1]), (1, [1, 4]), (2, [1, 4, 9]), (3, [2, 3]), (4, [1, 5]), (5, [5]), (6, [5, 20]), (7, [2, 3]), (8, [2, 3])], []⟩ Tryz.f10 = some F10 := by kernel_rfl
theorem F10_fn : FnOK2 Tryz.prog 10 (.pl F10) := .pl Tryz.func10 (by kernel_rfl) F10_ok
theorem F11_ok : prepF Tryz.prog ⟨[1], [(0, [1]), (1, [1, 3]), (2, [3]), (3, [2])], []⟩ Tryz.f11 = some F11 := by kernel_rfl
theorem F11_fn : FnOK2 Tryz.prog 11 (.pl F11) := .pl Tryz.func11 (by kernel_rfl) F11_ok
theorem F12_ok : prepF Tryz.prog ⟨[1], [(0, [1]), (1, [1, 3]), (2, [3]), (3, [2])], []⟩ Tryz.f12 = some F12 := by kernel_rfl
theorem F12_fn : FnOK2 Tryz.prog 12 (.pl F12) := .pl Tryz.func12 (by kernel_rfl) F12_ok
theorem F13_ok : prepF Tryz.prog ⟨[1, 5], [(0, [1]), (1, [1, 3]), (2, [3, 7, 8, 9]), (3, [3, 7, 8, 9, 10]), (4, [3, 5, 7, 8, 9]), (5, [3, 7, 8, 9]), (6, [3, 7, 8, 9]), (7, [2]), (1000000, [3, 7, 8, 9])], []⟩ Tryz.f13 = some F13 := by kernel_rfl
theorem F13_fn : FnOK2 Tryz.prog 13 (.pl F13) := .pl Tryz.func13 (by kernel_rfl) F13_ok
theorem F14_ok : prepF Tryz.prog ⟨[1], [(0, [1]), (1, [2])], []⟩ Tryz.f14 = some F14 := by kernel_rfl
theorem F14_fn : FnOK2 Tryz.prog 14 (.pl F14) := .pl Tryz.func14 (by kernel_rfl) F14_ok
theorem F15_ok : prepF Tryz.prog ⟨[2, 4, 9, 12], [(0, [1, 2, 4]), (1, [1, 2, 4, 7]), (2, [2, 4, 7, 13, 14, 15]), (3, [2, 4, 7, 13, 14, 15, 16]), (4, [2, 4, 7, 9, 13, 14, 15]), (5, [2, 4, 7, 10, 13, 14, 15]), (6, [2, 4, 7, 10, 13, 14, 15, 23]), (7, [4, 5, 6]), (8, [2, 4, 7, 10, 13, 14, 15]), (9, [2, 4, 7, 10, 13, 14, 15, 37, 38, 39]), (10, [2, 4, 7, 10, 13, 14, 15, 37, 38, 39, 40]), (11, [2, 4, 7, 10, 11, 12, 13, 14, 15, 37, 38, 39]), (12, [2, 4, 7, 10, 11, 13, 14, 15, 37, 38, 39]), (13, [2, 4, 7, 10, 11, 13, 14, 15, 37, 38, 39, 52]), (14, [2, 4, 7, 10, 13, 14, 15, 37, 38, 39]), (15, [2, 4, 7, 10, 13, 14, 15, 37, 38, 39]), (16, [2, 4, 7, 13, 14, 15]), (17, [2, 4, 7, 13, 14, 15]), (18, [4, 5, 6]), (1000000, [2, 4, 7, 13, 14, 15]), (1000002, [2, 4, 7, 10, 13, 14, 15, 37, 38, 39])], []⟩ Tryz.f15 = some F15 := by kernel_rfl
theorem F15_fn : FnOK2 Tryz.prog 15 (.pl F15) := .pl Tryz.func15 (by kernel_rfl) F15_ok
theorem F16_ok : prepF Tryz.prog ⟨[2], [(0, [1, 2]), (1, [1, 2, 5]), (2, [1, 2, 5, 6]), (3, [1, 2, 5, 6, 25]), (4, [1, 2, 5, 6]), (5, [1, 2, 5, 6]), (6, [4]), (1000000, [1, 2, 5, 6])], [(1, [(some 2), (some 2), none, none, none, (some 2), (some 2), none, none, none])]⟩ Tryz.f16 = some F16 := by kernel_rfl
theorem F16_fn : FnOK2 Tryz.prog 16 (.pl F16) := .pl Tryz.func16 (by kernel_rfl) F16_ok
theorem F17_ok : prepF Tryz.prog ⟨[1, 2, 3], [(0, [1, 2]), (1, [1, 2, 3]), (2, [1, 2, 3]), (3, [1, 2, 3]), (4, [1, 2, 3]), (5, [1, 2, 3]), (6, [1, 2, 3, 4]), (7, [1, 2, 3, 4, 22]), (8, [1, 2, 3, 4]), (9, [1, 2, 3, 4]), (10, [2]), (1000000, [1, 2, 3, 4])], [(9, [(some 3), (some 3), (some 1), (some 1), none, none, none, none, none, none, (some 3), (some 3)])]⟩ Tryz.f17 = some F17 := by kernel_rfl
theorem F17_fn : FnOK2 Tryz.prog 17 (.pl F17) := .pl Tryz.func17 (by kernel_rfl) F17_ok
theorem F21_ok : prepF Tryz.prog ⟨[2, 3], [(0, [2, 3]), (1, [2, 3, 36]), (2, [4]), (3, [2, 3, 5]), (4, [2, 3, 5, 41]), (5, [2, 3, 5]), (6, [2, 3, 5, 54]), (7, [4]), (8, [2, 3, 6]), (9, [2, 3, 6, 59]), (10, [2, 3, 6]), (11, [2, 3, 6, 73]), (12, [4]), (13, [4]), (1000000, [2, 3, 5]), (1000002, [2, 3, 6])], [(11, [(some 2), (some 2), none, none, none, (some 3), (some 3), none, none, none, none, none]), (6, [(some 2), (some 2), none, none, none, (some 3), (some 3), none, none, none, none])]⟩ Tryz.f21 = some F21 := by kernel_rfl
theorem F21_fn : FnOK2 Tryz.prog 21 (.pl F21) := .pl Tryz.func21 (by kernel_rfl) F21_ok
theorem F23_ok : prepF Tryz.prog ⟨[2, 3], [(0, [2, 3]), (1, [2, 3, 86]), (2, [4]), (3, [2, 3, 5]), (4, [2, 3, 5, 91]), (5, [2, 3, 5]), (6, [2, 3, 5, 104]), (7, [4]), (8, [2, 3, 6]), (9, [2, 3, 6, 109]), (10, [2, 3, 6]), (11, [2, 3, 6, 123]), (12, [4]), (13, [4]), (1000000, [2, 3, 5]), (1000002, [2, 3, 6])], [(11, [(some 2), (some 2), none, none, none, (some 3), (some 3), none, none, none, none, none]), (6, [(some 2), (some 2), none, none, none, (some 3), (some 3), none, none, none, none])]⟩ Tryz.f23 = some F23 := by kernel_rfl
theorem F23_fn : FnOK2 Tryz.prog 23 (.pl F23) := .pl Tryz.func23 (by kernel_rfl) F23_ok
theorem F24_ok : prepF Tryz.prog ⟨[1, 2, 3, 5], [(0, [1, 2]), (1, [1, 2, 3]), (2, [1, 2, 3]), (3, [1, 2, 3]), (4, [2, 3, 17, 18, 19]), (5, [2, 3, 17, 18, 19, 20]), (6, [2, 3, 5, 17, 18, 19]), (7, [2, 3, 17, 18, 19]), (8, [2, 3, 17, 18, 19]), (9, [2]), (1000000, [2, 3, 17, 18, 19])], [(7, [(some 3), (some 3), (some 5), none, none, none, (some 3), (some 3)])]⟩ Tryz.f24 = some F24 := by kernel_rfl
theorem F24_fn : FnOK2 Tryz.prog 24 (.pl F24) := .pl Tryz.func24 (by kernel_rfl) F24_ok
theorem F28_ok : prepF Tryz.prog ⟨[1], [(0, [1]), (1, [1, 3]), (2, [2]), (3, [1, 7]), (4, [2]), (5, [11]), (6, [2]), (7, [2])], []⟩ Tryz.f28 = some F28 := by kernel_rfl
theorem F28_fn : FnOK2 Tryz.prog 28 (.pl F28) := .pl Tryz.func28 (by kernel_rfl) F28_ok
theorem F30_ok : prepF Tryz.prog ⟨[2, 3], [(0, [2, 3]), (1, [2, 3, 12]), (2, [4]), (3, [4])], [(3, [(some 2), none, (some 3), none, none, none])]⟩ Tryz.f30 = some F30 := by kernel_rfl
theorem F30_fn : FnOK2 Tryz.prog 30 (.pl F30) := .pl Tryz.func30 (by kernel_rfl) F30_ok
theorem F32_ok : prepF Tryz.prog ⟨[1, 2, 3, 5], [(0, [1, 2]), (1, [1, 2, 7]), (2, [2]), (3, [1, 2, 3]), (4, [1, 2, 3, 15, 16, 17]), (5, [1, 2, 3, 15, 16, 17, 18]), (6, [1, 2, 3, 5, 15, 16, 17]), (7, [1, 2, 3, 5, 15, 16, 17, 23]), (8, [1, 2, 3, 5, 15, 16, 17]), (9, [1, 2, 3, 15, 16, 17]), (10, [1, 2, 3, 15, 16, 17]), (11, [2]), (1000000, [1, 2, 3, 15, 16, 17])], [(9, [(some 3), (some 3), (some 5), none, none, none, (some 3), (some 3)])]⟩ Tryz.f32 = some F32 := by kernel_rfl
theorem F32_fn : FnOK2 Tryz.prog 32 (.pl F32) := .pl Tryz.func32 (by kernel_rfl) F32_ok
theorem F33_ok : prepF Tryz.prog ⟨[3, 7], [(0, [0, 3]), (1, [0, 3, 13]), (2, [0, 3, 13, 14]), (3, []), (4, [0, 3, 13, 18]), (5, [0, 3, 13, 18]), (6, []), (7, [0, 3, 13, 25]), (8, [0, 4]), (9, []), (10, [0, 3, 13, 36]), (11, []), (12, [0, 3, 13, 43]), (13, [0, 3]), (14, [0, 48, 49, 50]), (15, [0, 48, 49, 50, 51]), (16, [0, 6, 7, 48, 49, 50]), (17, [0, 7, 48, 49, 50, 56]), (18, [0, 7, 48, 49, 50]), (19, [0, 48, 49, 50]), (20, [0, 48, 49, 50]), (21, []), (22, [0, 3, 65]), (23, [0, 3]), (24, [0, 3, 71, 72, 73]), (25, [0, 3, 71, 72, 73, 74]), (26, [0, 3, 8, 9, 71, 72, 73]), (27, [0, 3, 9, 71, 72, 73, 79]), (28, [0, 3, 9, 71, 72, 73]), (29, [0, 3, 9, 10, 71, 72, 73]), (30, [0, 3, 9, 71, 72, 73]), (31, [0, 3, 71, 72, 73]), (32, [0, 3, 71, 72, 73]), (33, []), (1000001, [0, 48, 49, 50]), (1000003, [0, 3, 71, 72, 73])], []⟩ Tryz.f33 = some F33 := by kernel_rfl
theorem F33_fn : FnOK2 Tryz.prog 33 (.pl F33) := .pl Tryz.func33 (by kernel_rfl) F33_ok
theorem F34_ok : prepF Tryz.prog ⟨[], [(0, [0]), (1, [2])], []⟩ Tryz.f34 = some F34 := by kernel_rfl
theorem F34_fn : FnOK2 Tryz.prog 34 (.pl F34) := .pl Tryz.func34 (by kernel_rfl) F34_ok
theorem F35_ok : prepF Tryz.prog ⟨[], [(0, [0]), (1, [2])], []⟩ Tryz.f35 = some F35 := by kernel_rfl
theorem F35_fn : FnOK2 Tryz.prog 35 (.pl F35) := .pl Tryz.func35 (by kernel_rfl) F35_ok
theorem F36_ok : prepF Tryz.prog ⟨[2, 5], [(0, [1, 2]), (1, [1, 2]), (2, [1, 2, 11]), (3, [1, 2]), (4, [1, 2]), (5, [1, 2, 21, 22, 23]), (6, [1, 2, 21, 22, 23, 24]), (7, [1, 2, 4, 5, 21, 22, 23]), (8, [1, 2, 4, 5, 21, 22, 23, 37]), (9, [1, 2, 5, 21, 22, 23]), (10, [1, 2, 21, 22, 23]), (11, [1, 2, 21, 22, 23]), (12, [1, 2]), (13, []), (1000000, [1, 2, 21, 22, 23])], []⟩ Tryz.f36 = some F36 := by kernel_rfl
theorem F36_fn : FnOK2 Tryz.prog 36 (.pl F36) := .pl Tryz.func36 (by kernel_rfl) F36_ok
theorem F37_ok : prepF Tryz.prog ⟨[], [(0, [])], []⟩ Tryz.f37 = some F37 := by kernel_rfl
theorem F37_fn : FnOK2 Tryz.prog 37 (.pl F37) := .pl Tryz.func37 (by kernel_rfl) F37_ok
theorem F38_ok : prepF Tryz.prog ⟨[], [(0, [0, 1]), (1, [0, 1]), (2, [1]), (3, [4, 5])], []⟩ Tryz.f38 = some F38 := by kernel_rfl
theorem F38_fn : FnOK2 Tryz.prog 38 (.pl F38) := .pl Tryz.func38 (by kernel_rfl) F38_ok
theorem F39_ok : prepF Tryz.prog ⟨[], [(0, [])], []⟩ Tryz.f39 = some F39 := by kernel_rfl
theorem F39_fn : FnOK2 Tryz.prog 39 (.pl F39) := .pl Tryz.func39 (by kernel_rfl) F39_ok
theorem F40_ok : prepF Tryz.prog ⟨[1, 5], [(0, [1]), (1, [1, 3]), (2, [3, 7, 8, 9]), (3, [3, 7, 8, 9, 10]), (4, [3, 5, 7, 8, 9]), (5, [3, 7, 8, 9]), (6, [3, 7, 8, 9]), (7, [2]), (1000000, [3, 7, 8, 9])], []⟩ Tryz.f40 = some F40 := by kernel_rfl
theorem F40_fn : FnOK2 Tryz.prog 40 (.pl F40) := .pl Tryz.func40 (by kernel_rfl) F40_ok
theorem F41_ok : prepF Tryz.prog ⟨[1, 5], [(0, [1]), (1, [1, 7]), (2, [2]), (3, [1, 72]), (4, [2]), (5, [1, 3]), (6, [1, 3, 75, 76, 77]), (7, [1, 3, 75, 76, 77, 78]), (8, [1, 3, 5, 75, 76, 77]), (9, [1, 3, 5, 75, 76, 77]), (10, [1, 3, 75, 76, 77, 116]), (11, [2]), (12, [1, 3, 75, 76, 77]), (13, [2]), (1000000, [1, 3, 75, 76, 77])], []⟩ Tryz.f41 = some F41 := by kernel_rfl
theorem F41_fn : FnOK2 Tryz.prog 41 (.pl F41) := .pl Tryz.func41 (by kernel_rfl) F41_ok
theorem F42_ok : prepF Tryz.prog ⟨[2, 3, 6], [(0, [2, 3]), (1, [2, 3, 8]), (2, [2, 3, 8, 9]), (3, [3, 26]), (4, [4]), (5, [2, 3, 29]), (6, [3, 32, 33, 34]), (7, [3, 32, 33, 34, 35]), (8, [3, 5, 6, 32, 33, 34]), (9, [3, 5, 32, 33, 34, 43]), (10, [4]), (11, [3, 32, 33, 34]), (12, [4]), (1000001, [3, 32, 33, 34])], []⟩ Tryz.f42 = some F42 := by kernel_rfl
theorem F42_fn : FnOK2 Tryz.prog 42 (.pl F42) := .pl Tryz.func42 (by kernel_rfl) F42_ok
theorem F43_ok : prepF Tryz.prog ⟨[2], [(0, [1, 2]), (1, [1, 2, 5]), (2, [1, 2, 5, 6]), (3, [1, 2, 5, 6, 16]), (4, [1, 2, 5, 6]), (5, [1, 2, 5, 6]), (6, [4]), (1000000, [1, 2, 5, 6])], []⟩ Tryz.f43 = some F43 := by kernel_rfl
theorem F43_fn : FnOK2 Tryz.prog 43 (.pl F43) := .pl Tryz.func43 (by kernel_rfl) F43_ok
theorem F44_ok : prepF Tryz.prog ⟨[1, 2, 3], [(0, [1, 2]), (1, [1, 2, 3]), (2, [1, 2, 3]), (3, [1, 2, 3, 4]), (4, [1, 2, 3, 4, 20]), (5, [1, 2, 3, 4]), (6, [1, 2, 3, 4]), (7, [2]), (1000000, [1, 2, 3, 4])], [(6, [(some 3), (some 3), (some 1), (some 1), none, none, none, none, none, none, (some 3), (some 3)])]⟩ Tryz.f44 = some F44 := by kernel_rfl
theorem F44_fn : FnOK2 Tryz.prog 44 (.pl F44) := .pl Tryz.func44 (by kernel_rfl) F44_ok
theorem F49_ok : prepF Tryz.prog ⟨[1, 2, 3, 5], [(0, [1, 2]), (1, [1, 2, 3]), (2, [1, 2, 3]), (3, [2, 3, 18, 19, 20]), (4, [2, 3, 18, 19, 20, 21]), (5, [2, 3, 5, 18, 19, 20]), (6, [2, 3, 18, 19, 20]), (7, [2, 3, 18, 19, 20]), (8, [2]), (1000000, [2, 3, 18, 19, 20])], [(6, [(some 3), (some 3), (some 5), none, none, none, (some 3), (some 3)])]⟩ Tryz.f49 = some F49 := by kernel_rfl
theorem F49_fn : FnOK2 Tryz.prog 49 (.pl F49) := .pl Tryz.func49 (by kernel_rfl) F49_ok
theorem F52_ok : prepF Tryz.prog ⟨[1, 5], [(0, [1]), (1, [1, 3]), (2, [3, 7, 8, 9]), (3, [3, 7, 8, 9, 10]), (4, [3, 5, 7, 8, 9]), (5, [3, 7, 8, 9]), (6, [3, 7, 8, 9]), (7, [2]), (1000000, [3, 7, 8, 9])], []⟩ Tryz.f52 = some F52 := by kernel_rfl
theorem F52_fn : FnOK2 Tryz.prog 52 (.pl F52) := .pl Tryz.func52 (by kernel_rfl) F52_ok
theorem F53_ok : prepF Tryz.prog ⟨[1, 5], [(0, [1]), (1, [1, 3]), (2, [3, 7, 8, 9]), (3, [3, 7, 8, 9, 10]), (4, [3, 5, 7, 8, 9]), (5, [3, 7, 8, 9]), (6, [3, 7, 8, 9]), (7, [2]), (1000000, [3, 7, 8, 9])], []⟩ Tryz.f53 = some F53 := by kernel_rfl
theorem F53_fn : FnOK2 Tryz.prog 53 (.pl F53) := .pl Tryz.func53 (by kernel_rfl) F53_ok
theorem F54_ok : prepF Tryz.prog ⟨[1, 4], [(0, [1]), (1, [1, 9, 10, 11]), (2, [1, 9, 10, 11, 12]), (3, [1, 4, 9, 10, 11]), (4, [1, 9, 10, 11, 17]), (5, [2]), (6, [1, 9, 10, 11]), (7, [1, 5]), (8, [1, 5, 30]), (9, [1, 5, 30, 31]), (10, [2]), (11, [1, 5, 30, 39]), (12, [2]), (13, [1, 5, 30, 52]), (14, [1, 5, 6, 7]), (15, [2]), (16, [1, 5, 30, 71]), (17, [2]), (18, [1, 5, 30, 79]), (19, [2]), (20, [1, 30, 87]), (21, [2]), (22, [1, 98]), (23, [2]), (24, [2]), (1000000, [1, 9, 10, 11])], []⟩ Tryz.f54 = some F54 := by kernel_rfl
theorem F54_fn : FnOK2 Tryz.prog 54 (.pl F54) := .pl Tryz.func54 (by kernel_rfl) F54_ok
theorem F56_ok : prepF Tryz.prog ⟨[2, 3], [(0, [2, 3]), (1, [4])], []⟩ Tryz.f56 = some F56 := by kernel_rfl
theorem F56_fn : FnOK2 Tryz.prog 56 (.pl F56) := .pl Tryz.func56 (by kernel_rfl) F56_ok
theorem F57_ok : prepF Tryz.prog ⟨[1, 2, 3, 5], [(0, [1, 2]), (1, [1, 2, 3]), (2, [1, 2, 3, 24]), (3, [1, 2, 3]), (4, [2, 3, 32, 33, 34]), (5, [2, 3, 32, 33, 34, 35]), (6, [2, 3, 5, 32, 33, 34]), (7, [2, 3, 32, 33, 34]), (8, [2, 3, 32, 33, 34]), (9, [2]), (10, [1, 2, 3, 49, 50, 51]), (11, [1, 2, 3, 49, 50, 51, 52]), (12, [1, 2, 3, 7, 49, 50, 51]), (13, [1, 2, 3, 7, 49, 50, 51]), (14, [1, 2, 3, 49, 50, 51]), (15, [1, 2, 3, 49, 50, 51]), (16, [2]), (1000000, [2, 3, 32, 33, 34]), (1000002, [1, 2, 3, 49, 50, 51])], [(14, [(some 3), (some 3), (some 1), (some 1), none, none, none, none, none, none, (some 3), (some 3)]), (13, [(some 3), (some 3), (some 1), (some 1), none, none, none, none, none, (some 3), (some 3)]), (7, [(some 3), (some 3), (some 5), none, none, none, (some 3), (some 3)])]⟩ Tryz.f57 = some F57 := by kernel_rfl
theorem F57_fn : FnOK2 Tryz.prog 57 (.pl F57) := .pl Tryz.func57 (by kernel_rfl) F57_ok
theorem F58_ok : prepF Tryz.prog ⟨[1], [(0, [1]), (1, [2])], []⟩ Tryz.f58 = some F58 := by kernel_rfl
theorem F58_fn : FnOK2 Tryz.prog 58 (.pl F58) := .pl Tryz.func58 (by kernel_rfl) F58_ok
theorem F59_ok : prepF Tryz.prog ⟨[], [(0, [0, 1, 8]), (1, [])], []⟩ Tryz.f59 = some F59 := by kernel_rfl
theorem F59_fn : FnOK2 Tryz.prog 59 (.pl F59) := .pl Tryz.func59 (by kernel_rfl) F59_ok
theorem F60_ok : prepF Tryz.prog ⟨[], [(0, [0]), (1, [0, 10]), (2, [2, 3]), (3, [0, 4]), (4, [0, 4]), (5, [0, 4, 13, 14]), (6, [0, 4, 13, 14, 15]), (7, [0, 4, 5, 13, 14]), (8, [0, 4, 6, 13, 14]), (9, [0, 4, 6, 7, 13, 14]), (10, [0, 4, 13, 14]), (11, [0, 4, 6, 7, 13, 14, 24]), (12, [0, 4, 7, 13, 14]), (13, [0, 4, 13, 14]), (14, [0, 4, 6, 13, 14, 30]), (15, [0, 4, 6, 13, 14]), (16, [0, 4, 6, 13, 14]), (17, [0, 4, 13, 14]), (18, [0, 4, 13, 14]), (19, [4]), (20, [2, 3]), (1000000, [0, 4, 13, 14])], []⟩ Tryz.f60 = some F60 := by kernel_rfl
theorem F60_fn : FnOK2 Tryz.prog 60 (.pl F60) := .pl Tryz.func60 (by kernel_rfl) F60_ok
theorem F61_ok : prepF Tryz.prog ⟨[], [(0, [1]), (1, [1, 3]), (2, [1, 3, 9, 10]), (3, [1, 3, 9, 10, 11]), (4, [1, 3, 4, 9, 10]), (5, [1, 3, 9, 10]), (6, [1, 3, 9, 10]), (7, [3]), (8, [2]), (1000000, [1, 3, 9, 10])], []⟩ Tryz.f61 = some F61 := by kernel_rfl
theorem F61_fn : FnOK2 Tryz.prog 61 (.pl F61) := .pl Tryz.func61 (by kernel_rfl) F61_ok
theorem F62_ok : prepF Tryz.prog ⟨[], [(0, [0, 6]), (1, []), (2, [19])], []⟩ Tryz.f62 = some F62 := by kernel_rfl
theorem F62_fn : FnOK2 Tryz.prog 62 (.pl F62) := .pl Tryz.func62 (by kernel_rfl) F62_ok
theorem F63_ok : prepF Tryz.prog ⟨[], [(0, [0]), (1, [2])], []⟩ Tryz.f63 = some F63 := by kernel_rfl
theorem F63_fn : FnOK2 Tryz.prog 63 (.pl F63) := .pl Tryz.func63 (by kernel_rfl) F63_ok
theorem F66_ok : prepF Tryz.prog ⟨[4], [(0, [0]), (1, [4, 5]), (2, [4, 5, 12]), (3, [2, 3]), (4, [2, 3])], []⟩ Tryz.f66 = some F66 := by kernel_rfl
theorem F66_fn : FnOK2 Tryz.prog 66 (.pl F66) := .pl Tryz.func66 (by kernel_rfl) F66_ok
theorem F67_ok : prepF Tryz.prog ⟨[], [(0, [0]), (1, [0, 11]), (2, [2]), (3, [0]), (4, [3, 4, 5]), (5, [2])], []⟩ Tryz.f67 = some F67 := by kernel_rfl
theorem F67_fn : FnOK2 Tryz.prog 67 (.pl F67) := .pl Tryz.func67 (by kernel_rfl) F67_ok
theorem F68_ok : prepF Tryz.prog ⟨[], [(0, [0]), (1, [0, 3]), (2, [3, 7, 8, 9]), (3, [3, 7, 8, 9, 10]), (4, [3, 5, 7, 8, 9]), (5, [3, 5, 7, 8, 9]), (6, [3, 7, 8, 9, 25]), (7, [2]), (8, [3, 7, 8, 9]), (9, [2]), (1000000, [3, 7, 8, 9])], []⟩ Tryz.f68 = some F68 := by kernel_rfl
theorem F68_fn : FnOK2 Tryz.prog 68 (.pl F68) := .pl Tryz.func68 (by kernel_rfl) F68_ok
theorem F70_ok : prepF Tryz.prog ⟨[], [(0, [0, 1]), (1, [0, 1, 10]), (2, [4]), (3, [0, 1, 12, 13]), (4, [0, 1, 12, 13, 14]), (5, [0, 1, 5, 12, 13]), (6, [0, 1, 12, 13, 24]), (7, [4]), (8, [0, 1, 12, 13]), (9, [4]), (1000000, [0, 1, 12, 13])], []⟩ Tryz.f70 = some F70 := by kernel_rfl
theorem F70_fn : FnOK2 Tryz.prog 70 (.pl F70) := .pl Tryz.func70 (by kernel_rfl) F70_ok
theorem F71_ok : prepF Tryz.prog ⟨[8, 9], [(0, [0, 1, 2]), (1, [0, 1, 2, 14]), (2, [6]), (3, [1, 2, 15, 16, 17]), (4, [1, 2, 15, 16, 17, 18]), (5, [1, 2, 7, 8, 15, 16, 17]), (6, [1, 2, 8, 9, 15, 16, 17]), (7, [1, 2, 15, 16, 17, 30]), (8, [6]), (9, [1, 2, 15, 16, 17]), (10, [6]), (1000000, [1, 2, 15, 16, 17])], []⟩ Tryz.f71 = some F71 := by kernel_rfl
theorem F71_fn : FnOK2 Tryz.prog 71 (.pl F71) := .pl Tryz.func71 (by kernel_rfl) F71_ok
theorem F72_ok : prepF Tryz.prog ⟨[], [(0, [0]), (1, [2])], []⟩ Tryz.f72 = some F72 := by kernel_rfl
theorem F72_fn : FnOK2 Tryz.prog 72 (.pl F72) := .pl Tryz.func72 (by kernel_rfl) F72_ok
theorem F73_ok : prepF Tryz.prog ⟨[], [(0, [0, 1]), (1, [0, 1]), (2, []), (3, [4])], []⟩ Tryz.f73 = some F73 := by kernel_rfl
theorem F73_fn : FnOK2 Tryz.prog 73 (.pl F73) := .pl Tryz.func73 (by kernel_rfl) F73_ok
theorem F74_ok : prepF Tryz.prog ⟨[], [(0, [0]), (1, [0, 3]), (2, [0, 3, 4]), (3, [0, 3, 4]), (4, [2]), (5, [3, 8]), (6, [2]), (7, [3, 10]), (8, [2]), (9, [3, 12]), (10, [2]), (11, [3, 14]), (12, [2]), (13, [16]), (14, [2]), (15, [2])], []⟩ Tryz.f74 = some F74 := by kernel_rfl
theorem F74_fn : FnOK2 Tryz.prog 74 (.pl F74) := .pl Tryz.func74 (by kernel_rfl) F74_ok
theorem F75_ok : prepF Tryz.prog ⟨[], [(0, [0]), (1, [2])], []⟩ Tryz.f75 = some F75 := by kernel_rfl
theorem F75_fn : FnOK2 Tryz.prog 75 (.pl F75) := .pl Tryz.func75 (by kernel_rfl) F75_ok
theorem F76_ok : prepF Tryz.prog ⟨[], [(0, [])], []⟩ Tryz.f76 = some F76 := by kernel_rfl
theorem F76_fn : FnOK2 Tryz.prog 76 (.pl F76) := .pl Tryz.func76 (by kernel_rfl) F76_ok
theorem F77_ok : prepF Tryz.prog ⟨[], [(0, [0, 1, 2]), (1, [5])], []⟩ Tryz.f77 = some F77 := by kernel_rfl
theorem F77_fn : FnOK2 Tryz.prog 77 (.pl F77) := .pl Tryz.func77 (by kernel_rfl) F77_ok
theorem F78_ok : prepF Tryz.prog ⟨[], [(0, [0, 1]), (1, [4])], []⟩ Tryz.f78 = some F78 := by kernel_rfl
theorem F78_fn : FnOK2 Tryz.prog 78 (.pl F78) := .pl Tryz.func78 (by kernel_rfl) F78_ok
theorem F80_ok : prepF Tryz.prog ⟨[], [(0, [0]), (1, [0, 3]), (2, [0, 3, 9]), (3, [0, 3, 5]), (4, [0, 3, 5, 18]), (5, [2]), (6, [0, 3]), (7, [2]), (1000000, [0, 3])], []⟩ Tryz.f80 = some F80 := by kernel_rfl
theorem F80_fn : FnOK2 Tryz.prog 80 (.pl F80) := .pl Tryz.func80 (by kernel_rfl) F80_ok
theorem F84_ok : prepF Tryz.prog ⟨[2], [(0, [0, 2]), (1, [0, 2, 4, 5, 6, 7, 8]), (2, [0, 2, 4, 5, 6, 7, 21]), (3, [2, 3]), (4, [2, 4, 5, 6, 7, 25]), (5, [2, 3]), (6, [2, 4, 5, 6, 8, 9]), (7, [2, 4, 5, 6, 9, 33]), (8, [2, 3]), (9, [2, 4, 6, 9, 10]), (10, [2, 4, 9, 10]), (11, [2, 4, 9, 10, 11]), (12, [2, 4, 9, 11]), (13, [2, 4, 9, 11, 53]), (14, [2, 3]), (15, [2, 3])], []⟩ Tryz.f84 = some F84 := by kernel_rfl
theorem F84_fn : FnOK2 Tryz.prog 84 (.pl F84) := .pl Tryz.func84 (by kernel_rfl) F84_ok
theorem F85_ok : prepF Tryz.prog ⟨[1], [(0, [1]), (1, [1, 4]), (2, [1, 4, 9]), (3, [1, 4, 9]), (4, [1, 4, 9]), (5, [2, 3]), (6, [1, 4, 42]), (7, [2, 3]), (8, [1, 51]), (9, [2, 3]), (10, [1, 5]), (11, [1, 5, 57]), (12, [1, 5]), (13, [1, 5, 62]), (14, [5]), (15, [5, 71]), (16, [2, 3]), (17, [2, 3])], []⟩ Tryz.f85 = some F85 := by kernel_rfl
theorem F85_fn : FnOK2 Tryz.prog 85 (.pl F85) := .pl Tryz.func85 (by kernel_rfl) F85_ok
theorem F86_ok : prepF Tryz.prog ⟨[], [(0, [0]), (1, [0, 33]), (2, [2]), (3, [2])], []⟩ Tryz.f86 = some F86 := by kernel_rfl
theorem F86_fn : FnOK2 Tryz.prog 86 (.pl F86) := .pl Tryz.func86 (by kernel_rfl) F86_ok
theorem F87_ok : prepF Tryz.prog ⟨[], [(0, [0]), (1, [0, 34]), (2, [2]), (3, [0, 37]), (4, [2]), (5, [0, 3]), (6, [2])], []⟩ Tryz.f87 = some F87 := by kernel_rfl
theorem F87_fn : FnOK2 Tryz.prog 87 (.pl F87) := .pl Tryz.func87 (by kernel_rfl) F87_ok
theorem F88_ok : prepF Tryz.prog ⟨[], [(0, [0]), (1, [0, 6]), (2, [2, 3]), (3, [0, 30]), (4, [2, 3]), (5, [0, 4]), (6, [0, 4, 51]), (7, [2, 3]), (8, [2, 3])], []⟩ Tryz.f88 = some F88 := by kernel_rfl
theorem F88_fn : FnOK2 Tryz.prog 88 (.pl F88) := .pl Tryz.func88 (by kernel_rfl) F88_ok
theorem F89_ok : prepF Tryz.prog ⟨[], [(0, [0, 1]), (1, [4, 5, 6])], []⟩ Tryz.f89 = some F89 := by kernel_rfl
theorem F89_fn : FnOK2 Tryz.prog 89 (.pl F89) := .pl Tryz.func89 (by kernel_rfl) F89_ok
theorem F90_ok : prepF Tryz.prog ⟨[], [(0, [0, 1, 2, 6]), (1, [0, 1, 2, 6, 7, 8]), (2, [0, 1, 2, 6, 7, 8, 13]), (3, [0, 1, 2, 6, 8]), (4, [0, 1, 2, 6, 7, 8]), (5, [0, 1, 2, 6, 7, 8]), (6, [0, 1, 2, 6]), (7, [0, 1, 2, 6, 30]), (8, [0, 1, 2, 6, 7, 8]), (9, [0, 1, 2, 6, 7, 8, 35]), (10, [0, 1, 2, 6, 8]), (11, [0, 1, 2, 6, 7, 8]), (12, [0, 1, 2, 6, 7, 8]), (13, [0, 1, 2, 6, 7, 9]), (14, [0, 1, 2, 6, 7, 9, 54]), (15, [0, 1, 2, 6]), (16, [0, 1, 2, 6]), (1000000, [0, 1, 2, 6, 7, 8]), (1000002, [0, 1, 2, 6]), (1000004, [0, 1, 2, 6, 7, 8])], []⟩ Tryz.f90 = some F90 := by kernel_rfl
theorem F90_fn : FnOK2 Tryz.prog 90 (.pl F90) := .pl Tryz.func90 (by kernel_rfl) F90_ok
theorem F91_ok : prepF Tryz.prog ⟨[], [(0, [0, 1]), (1, [4])], []⟩ Tryz.f91 = some F91 := by kernel_rfl
theorem F91_fn : FnOK2 Tryz.prog 91 (.pl F91) := .pl Tryz.func91 (by kernel_rfl) F91_ok
theorem F92_ok : prepF Tryz.prog ⟨[], [(0, [0]), (1, [0, 7]), (2, [2, 3]), (3, [0, 2, 3, 4]), (4, [0, 2, 3, 4, 22]), (5, [2, 3]), (6, [0, 2, 3, 4, 5]), (7, [0, 2, 3, 4, 5, 25]), (8, [0, 2, 3, 4, 5]), (9, [0, 2, 3, 4, 5, 32]), (10, [2, 3]), (11, [0, 2, 3, 4, 5]), (12, [2, 3, 48]), (13, [2, 3]), (14, [2, 3]), (1000000, [0, 2, 3, 4, 5])], []⟩ Tryz.f92 = some F92 := by kernel_rfl
theorem F92_fn : FnOK2 Tryz.prog 92 (.pl F92) := .pl Tryz.func92 (by kernel_rfl) F92_ok
theorem F96_ok : prepF Tryz.prog ⟨[], [(0, [0, 4]), (1, [4, 7]), (2, [2, 4, 7]), (3, [2, 4, 7, 13]), (4, [2, 4, 7]), (5, [2, 4, 7, 8]), (6, [2, 4, 7, 8, 28]), (7, [2, 3, 4, 5, 6]), (8, [2, 3, 4, 7]), (9, [2, 3, 4, 7, 36]), (10, [2, 3, 7, 8]), (11, [2, 3, 7, 8, 41]), (12, [2, 3, 4, 5, 6]), (13, [2, 3, 4, 7]), (14, [2, 3, 4, 7, 51]), (15, [2, 3, 4, 5, 6]), (16, [2, 3, 4, 7, 62]), (17, [2, 3, 4, 5, 6]), (18, [2, 3, 4, 5]), (19, [2, 3, 4, 5, 9]), (20, [2, 3, 4, 5, 9, 69]), (21, [2, 3, 4, 5, 9]), (22, [2, 3, 4, 5, 80]), (23, [2, 3, 4, 5, 6]), (24, [2, 3, 4, 5, 6])], []⟩ Tryz.f96 = some F96 := by kernel_rfl
theorem F96_fn : FnOK2 Tryz.prog 96 (.pl F96) := .pl Tryz.func96 (by kernel_rfl) F96_ok
theorem F97_ok : prepF Tryz.prog ⟨[], [(0, [0]), (1, [0, 4]), (2, [0, 4]), (3, [0, 4, 14]), (4, [2, 3]), (5, [4, 5]), (6, [5, 21]), (7, [2, 3]), (8, [2, 3])], []⟩ Tryz.f97 = some F97 := by kernel_rfl
theorem F97_fn : FnOK2 Tryz.prog 97 (.pl F97) := .pl Tryz.func97 (by kernel_rfl) F97_ok
theorem F98_ok : prepF Tryz.prog ⟨[], [(0, [0, 1]), (1, [0, 1, 12]), (2, [4]), (3, [0, 1, 21]), (4, [4]), (5, [0, 1, 5, 6]), (6, [0, 1, 5, 31]), (7, [4]), (8, [4])], []⟩ Tryz.f98 = some F98 := by kernel_rfl
theorem F98_fn : FnOK2 Tryz.prog 98 (.pl F98) := .pl Tryz.func98 (by kernel_rfl) F98_ok
theorem F99_ok : prepF Tryz.prog ⟨[], [(0, [0, 1]), (1, [0, 1, 12]), (2, [4]), (3, [0, 1, 21]), (4, [4]), (5, [0, 1, 5, 6]), (6, [0, 1, 5, 31]), (7, [4]), (8, [4])], []⟩ Tryz.f99 = some F99 := by kernel_rfl
theorem F99_fn : FnOK2 Tryz.prog 99 (.pl F99) := .pl Tryz.func99 (by kernel_rfl) F99_ok
theorem F100_ok : prepF Tryz.prog ⟨[], [(0, [0]), (1, [0, 3]), (2, [0, 3, 13]), (3, [0, 3]), (4, [2]), (1000000, [0, 3])], []⟩ Tryz.f100 = some F100 := by kernel_rfl
theorem F100_fn : FnOK2 Tryz.prog 100 (.pl F100) := .pl Tryz.func100 (by kernel_rfl) F100_ok
theorem F101_ok : prepF Tryz.prog ⟨[], [(0, [0]), (1, [2])], []⟩ Tryz.f101 = some F101 := by kernel_rfl
theorem F101_fn : FnOK2 Tryz.prog 101 (.pl F101) := .pl Tryz.func101 (by kernel_rfl) F101_ok
theorem F102_ok : prepF Tryz.prog ⟨[], [(0, [0]), (1, [0, 25]), (2, [2]), (3, [2])], []⟩ Tryz.f102 = some F102 := by kernel_rfl
theorem F102_fn : FnOK2 Tryz.prog 102 (.pl F102) := .pl Tryz.func102 (by kernel_rfl) F102_ok
theorem F103_ok : prepF Tryz.prog ⟨[], [(0, [0, 1, 2]), (1, [6])], []⟩ Tryz.f103 = some F103 := by kernel_rfl
theorem F103_fn : FnOK2 Tryz.prog 103 (.pl F103) := .pl Tryz.func103 (by kernel_rfl) F103_ok
theorem F104_ok : prepF Tryz.prog ⟨[], [(0, [0, 1]), (1, [0, 5]), (2, [0, 5, 6]), (3, [0, 5, 6]), (4, [0, 5, 6]), (5, [0, 5, 6]), (6, [4]), (7, [0, 11]), (8, [25]), (9, [4]), (10, [4]), (11, [4])], []⟩ Tryz.f104 = some F104 := by kernel_rfl
theorem F104_fn : FnOK2 Tryz.prog 104 (.pl F104) := .pl Tryz.func104 (by kernel_rfl) F104_ok
theorem F105_ok : prepF Tryz.prog ⟨[], [(0, [0, 1]), (1, [0, 1, 12]), (2, [4]), (3, [0, 1, 21]), (4, [4]), (5, [0, 1, 5, 6]), (6, [0, 1, 5, 34]), (7, [4]), (8, [4])], []⟩ Tryz.f105 = some F105 := by kernel_rfl
theorem F105_fn : FnOK2 Tryz.prog 105 (.pl F105) := .pl Tryz.func105 (by kernel_rfl) F105_ok
theorem F106_ok : prepF Tryz.prog ⟨[], [(0, [0, 1]), (1, [4])], []⟩ Tryz.f106 = some F106 := by kernel_rfl
theorem F106_fn : FnOK2 Tryz.prog 106 (.pl F106) := .pl Tryz.func106 (by kernel_rfl) F106_ok
theorem F107_ok : prepF Tryz.prog ⟨[], [(0, [0, 1]), (1, [0, 1, 7]), (2, [0, 1, 7, 12]), (3, [4, 5, 6]), (4, [4, 5, 6])], []⟩ Tryz.f107 = some F107 := by kernel_rfl
theorem F107_fn : FnOK2 Tryz.prog 107 (.pl F107) := .pl Tryz.func107 (by kernel_rfl) F107_ok
theorem F108_ok : prepF Tryz.prog ⟨[], [(0, [0, 1, 2, 3, 8]), (1, [0, 1, 2, 3, 8, 14]), (2, [0, 1, 2, 3, 8]), (3, [0, 1, 2, 3, 8, 9]), (4, [0, 1, 2, 3, 8, 9, 34]), (5, [0, 1, 2, 3, 8, 9]), (6, [0, 1, 2, 3, 8, 9]), (1000000, [0, 1, 2, 3, 8]), (1000002, [0, 1, 2, 3, 8, 9])], []⟩ Tryz.f108 = some F108 := by kernel_rfl
theorem F108_fn : FnOK2 Tryz.prog 108 (.pl F108) := .pl Tryz.func108 (by kernel_rfl) F108_ok
theorem F109_ok : prepF Tryz.prog ⟨[], [(0, [0, 1, 2, 3, 4, 28]), (1, [0, 1, 3, 4, 10]), (2, [0, 1, 4, 10, 11]), (3, [0, 1, 4, 10, 11, 33]), (4, [0, 1, 4, 10, 11, 12]), (5, [0, 1, 4, 10, 11, 12, 50]), (6, [0, 1, 4, 10, 11]), (7, [0, 1, 4, 10, 11]), (8, [0, 10, 13]), (9, [0, 10, 13, 58]), (10, [0, 10, 13]), (11, [0, 10, 13]), (12, [0, 1, 2, 3, 4, 80]), (13, [0, 2, 4, 14]), (14, [0, 2, 4, 14, 15]), (15, [0, 2, 4, 14, 15, 85]), (16, [0, 2, 4, 14, 15, 16]), (17, [0, 2, 4, 14, 15, 16, 103]), (18, [0, 2, 4, 14, 15]), (19, [0, 2, 4, 14, 15]), (20, [0, 14, 17]), (21, [0, 14, 17, 110]), (22, [0, 14, 17]), (23, [0, 14, 17]), (24, [0, 1, 2, 3, 4, 18]), (25, [0, 1, 2, 3, 4, 18, 19]), (26, [0, 1, 2, 3, 4, 18, 19]), (27, [0, 1, 2, 3, 4, 18, 19, 140]), (28, [0, 1, 2, 3, 4, 18, 19, 20]), (29, [0, 1, 2, 3, 4, 18, 19, 20, 21]), (30, [0, 1, 2, 3, 4, 18, 19, 20]), (31, [0, 1, 2, 3, 4, 18, 19, 20, 21]), (32, [0, 1, 2, 3, 4, 18, 19, 20, 21, 22]), (33, [0, 1, 2, 3, 4, 18, 19, 20, 21, 22, 151]), (34, [0, 1, 2, 3, 4, 18, 19, 20, 21, 22, 23]), (35, [0, 1, 2, 3, 4, 18, 19, 20, 21, 22, 23, 171]), (36, [0, 1, 2, 3, 4, 18, 19, 20, 21, 22]), (37, [0, 1, 2, 3, 4, 18, 19, 20, 21, 22]), (38, [0, 1, 2, 3, 4, 18, 20, 24]), (39, [0, 1, 2, 3, 4, 18, 20, 24, 185]), (40, [0, 1, 3, 4, 18, 20, 24]), (41, [0, 1, 3, 4, 18, 20, 24, 199]), (42, [0, 3, 4, 18, 24]), (43, [0, 3, 4, 18, 24, 213]), (44, []), (1000000, [0, 1, 4, 10, 11]), (1000002, [0, 10, 13]), (1000004, [0, 2, 4, 14, 15]), (1000006, [0, 14, 17]), (1000008, [0, 1, 2, 3, 4, 18, 19, 20, 21, 22])], []⟩ Tryz.f109 = some F109 := by kernel_rfl
theorem F109_fn : FnOK2 Tryz.prog 109 (.pl F109) := .pl Tryz.func109 (by kernel_rfl) F109_ok
theorem F111_ok : prepF Tryz.prog ⟨[], [(0, [0]), (1, [0, 5]), (2, [2, 3, 4]), (3, [0, 11]), (4, [2, 3, 4]), (5, [0, 18]), (6, [2, 3, 4]), (7, [0, 25]), (8, [2, 3, 4]), (9, [2, 3, 4])], []⟩ Tryz.f111 = some F111 := by kernel_rfl
theorem F111_fn : FnOK2 Tryz.prog 111 (.pl F111) := .pl Tryz.func111 (by kernel_rfl) F111_ok
theorem F112_ok : prepF Tryz.prog ⟨[], [(0, [0]), (1, [2])], []⟩ Tryz.f112 = some F112 := by kernel_rfl
theorem F112_fn : FnOK2 Tryz.prog 112 (.pl F112) := .pl Tryz.func112 (by kernel_rfl) F112_ok
theorem F119_ok : prepF Tryz.prog ⟨[], [(0, [0, 1]), (1, [4])], []⟩ Tryz.f119 = some F119 := by kernel_rfl
theorem F119_fn : FnOK2 Tryz.prog 119 (.pl F119) := .pl Tryz.func119 (by kernel_rfl) F119_ok
theorem F120_ok : prepF Tryz.prog ⟨[], [(0, [0, 1]), (1, [4])], []⟩ Tryz.f120 = some F120 := by kernel_rfl
theorem F120_fn : FnOK2 Tryz.prog 120 (.pl F120) := .pl Tryz.func120 (by kernel_rfl) F120_ok
theorem F121_ok : prepF Tryz.prog ⟨[], [(0, [0]), (1, [0, 4, 5]), (2, [0, 4, 5, 12]), (3, [2, 3]), (4, [2, 3])], []⟩ Tryz.f121 = some F121 := by kernel_rfl
theorem F121_fn : FnOK2 Tryz.prog 121 (.pl F121) := .pl Tryz.func121 (by kernel_rfl) F121_ok
theorem F122_ok : prepF Tryz.prog ⟨[], [(0, [0, 1]), (1, [0, 1, 13]), (2, [0, 1]), (3, [4]), (1000000, [0, 1])], []⟩ Tryz.f122 = some F122 := by kernel_rfl
theorem F122_fn : FnOK2 Tryz.prog 122 (.pl F122) := .pl Tryz.func122 (by kernel_rfl) F122_ok
theorem F123_ok : prepF Tryz.prog ⟨[2], [(0, [0, 2]), (1, [0, 2, 4]), (2, [0, 2, 4, 9]), (3, [0, 2, 4]), (4, [0, 2, 4, 5]), (5, [0, 2, 4, 5, 16]), (6, [2, 3]), (7, [0, 2, 4]), (8, [2, 3]), (1000000, [0, 2, 4])], []⟩ Tryz.f123 = some F123 := by kernel_rfl
theorem F123_fn : FnOK2 Tryz.prog 123 (.pl F123) := .pl Tryz.func123 (by kernel_rfl) F123_ok
theorem F124_ok : prepF Tryz.prog ⟨[], [(0, [0, 1]), (1, [0, 1, 7]), (2, [0, 1, 12]), (3, [0, 1]), (4, [4]), (1000000, [0, 1])], []⟩ Tryz.f124 = some F124 := by kernel_rfl
theorem F124_fn : FnOK2 Tryz.prog 124 (.pl F124) := .pl Tryz.func124 (by kernel_rfl) F124_ok
theorem F125_ok : prepF Tryz.prog ⟨[], [(0, [0, 1]), (1, [0, 1, 9]), (2, [0, 1, 5, 6]), (3, [0, 1, 6, 18]), (4, [0, 1]), (5, [4]), (1000000, [0, 1])], []⟩ Tryz.f125 = some F125 := by kernel_rfl
theorem F125_fn : FnOK2 Tryz.prog 125 (.pl F125) := .pl Tryz.func125 (by kernel_rfl) F125_ok
theorem F126_ok : prepF Tryz.prog ⟨[], [(0, [0, 1]), (1, [0, 1, 16]), (2, [0, 1]), (3, [4]), (1000000, [0, 1])], []⟩ Tryz.f126 = some F126 := by kernel_rfl
theorem F126_fn : FnOK2 Tryz.prog 126 (.pl F126) := .pl Tryz.func126 (by kernel_rfl) F126_ok
theorem F127_ok : prepF Tryz.prog ⟨[], [(0, [0, 1]), (1, [0, 1, 7]), (2, [0, 1, 15]), (3, [0, 1]), (4, [4]), (1000000, [0, 1])], []⟩ Tryz.f127 = some F127 := by kernel_rfl
theorem F127_fn : FnOK2 Tryz.prog 127 (.pl F127) := .pl Tryz.func127 (by kernel_rfl) F127_ok
theorem F128_ok : prepF Tryz.prog ⟨[], [(0, [0, 1]), (1, [0, 1, 9]), (2, [0, 1, 5, 6]), (3, [0, 1, 5, 6, 17]), (4, [0, 1, 5, 6]), (5, [0, 1, 6, 26]), (6, [0, 1]), (7, [4]), (1000000, [0, 1])], []⟩ Tryz.f128 = some F128 := by kernel_rfl
theorem F128_fn : FnOK2 Tryz.prog 128 (.pl F128) := .pl Tryz.func128 (by kernel_rfl) F128_ok
theorem F129_ok : prepF Tryz.prog ⟨[], [(0, [0]), (1, [2])], []⟩ Tryz.f129 = some F129 := by kernel_rfl
theorem F129_fn : FnOK2 Tryz.prog 129 (.pl F129) := .pl Tryz.func129 (by kernel_rfl) F129_ok
theorem F130_ok : prepF Tryz.prog ⟨[], [(0, [0]), (1, [2])], []⟩ Tryz.f130 = some F130 := by kernel_rfl
theorem F130_fn : FnOK2 Tryz.prog 130 (.pl F130) := .pl Tryz.func130 (by kernel_rfl) F130_ok
theorem F131_ok : prepF Tryz.prog ⟨[], [(0, [0, 1]), (1, [4])], []⟩ Tryz.f131 = some F131 := by kernel_rfl
theorem F131_fn : FnOK2 Tryz.prog 131 (.pl F131) := .pl Tryz.func131 (by kernel_rfl) F131_ok
theorem F132_ok : prepF Tryz.prog ⟨[], [(0, [0, 1]), (1, [0, 1, 5]), (2, [0, 1, 5, 16]), (3, [4]), (4, [0, 1, 5, 24]), (5, [4]), (6, [0, 1, 5, 31]), (7, [4]), (8, [0, 1, 5, 36]), (9, [4]), (10, [0, 1, 5, 6]), (11, [0, 1, 5, 6, 7]), (12, [0, 1, 5, 6, 7, 8]), (13, [0, 1, 5, 6, 7, 8, 9]), (14, [0, 1, 5, 6, 7, 8, 9, 10]), (15, [0, 1, 5, 6, 7, 8, 9, 10, 59]), (16, [0, 1, 5, 6, 7, 8, 9, 10, 64]), (17, [0, 1, 5, 6, 7, 8, 9, 10, 11]), (18, [0, 1, 5, 6, 7, 8, 9, 10, 11, 73]), (19, [4]), (20, [0, 1, 5, 6, 7, 8, 9, 10]), (21, [0, 1, 5, 6, 7, 8, 9, 10, 93]), (22, [4]), (23, [0, 1, 5, 6, 7, 8, 9, 10]), (24, [0, 1, 5, 6, 7, 8, 9, 10]), (25, [0, 1, 5, 6, 7, 8, 9, 10, 107]), (26, [8, 12]), (27, [8, 12, 114]), (28, [4]), (29, [4]), (30, [0, 1, 5, 6, 7, 8, 9, 10, 132]), (31, [8, 13]), (32, [8, 13, 139]), (33, [4]), (34, [4]), (35, [4]), (1000001, [0, 1, 5, 6, 7, 8, 9, 10])], []⟩ Tryz.f132 = some F132 := by kernel_rfl
theorem F132_fn : FnOK2 Tryz.prog 132 (.pl F132) := .pl Tryz.func132 (by kernel_rfl) F132_ok
theorem F133_ok : prepF Tryz.prog ⟨[], [(0, [0, 2, 3, 4, 10]), (1, [0, 2, 4, 10, 11]), (2, [0, 2, 4, 10, 11, 20]), (3, [0, 2, 4, 10, 11, 23]), (4, [0, 2, 4, 10, 11]), (5, [0, 2, 4, 10, 11]), (6, [0, 2, 4, 10, 11]), (7, [0, 2, 4, 10, 11]), (8, []), (1000000, [0, 2, 4, 10, 11])], []⟩ Tryz.f133 = some F133 := by kernel_rfl
theorem F133_fn : FnOK2 Tryz.prog 133 (.pl F133) := .pl Tryz.func133 (by kernel_rfl) F133_ok
theorem F137_ok : prepF Tryz.prog ⟨[], [(0, [0, 1]), (1, [4])], []⟩ Tryz.f137 = some F137 := by kernel_rfl
theorem F137_fn : FnOK2 Tryz.prog 137 (.pl F137) := .pl Tryz.func137 (by kernel_rfl) F137_ok
theorem F138_ok : prepF Tryz.prog ⟨[], [(0, [0, 1]), (1, [0, 1, 7]), (2, [4]), (3, [4])], []⟩ Tryz.f138 = some F138 := by kernel_rfl
theorem F138_fn : FnOK2 Tryz.prog 138 (.pl F138) := .pl Tryz.func138 (by kernel_rfl) F138_ok
theorem F139_ok : prepF Tryz.prog ⟨[], [(0, [0]), (1, [0, 4]), (2, [0, 30]), (3, [0, 5]), (4, [0, 5, 39]), (5, [0, 5]), (6, [0, 5, 44]), (7, [2, 3]), (8, [0, 5, 6]), (9, [5, 6, 47, 48, 49]), (10, [5, 6, 47, 48, 49, 50]), (11, [5, 6, 8, 47, 48, 49]), (12, [5, 6, 8, 47, 48, 49]), (13, [5, 6, 8, 47, 48, 49, 56]), (14, [2, 3]), (15, [5, 6, 47, 48, 49]), (16, [5, 6, 47, 48, 49]), (17, [6, 66]), (18, [6]), (19, [2, 3]), (20, [9, 10]), (21, [2, 3]), (1000000, [5, 6, 47, 48, 49])], []⟩ Tryz.f139 = some F139 := by kernel_rfl
theorem F139_fn : FnOK2 Tryz.prog 139 (.pl F139) := .pl Tryz.func139 (by kernel_rfl) F139_ok
theorem F140_ok : prepF Tryz.prog ⟨[], [(0, [0, 1, 2, 3, 4]), (1, [0, 1, 2, 3, 4, 11]), (2, [0, 1, 2, 3, 4, 11, 12]), (3, [10]), (4, [0, 1, 2, 3, 4, 11, 19]), (5, [10]), (6, [0, 1, 2, 3, 4, 11, 26]), (7, [10]), (8, [0, 1, 3, 4, 34]), (9, [10]), (10, [10])], []⟩ Tryz.f140 = some F140 := by kernel_rfl
theorem F140_fn : FnOK2 Tryz.prog 140 (.pl F140) := .pl Tryz.func140 (by kernel_rfl) F140_ok
theorem F141_ok : prepF Tryz.prog ⟨[], [(0, [0, 1]), (1, [4])], []⟩ Tryz.f141 = some F141 := by kernel_rfl
theorem F141_fn : FnOK2 Tryz.prog 141 (.pl F141) := .pl Tryz.func141 (by kernel_rfl) F141_ok
theorem F142_ok : prepF Tryz.prog ⟨[], [(0, [0]), (1, [0, 10]), (2, [2, 3]), (3, [2, 3])], []⟩ Tryz.f142 = some F142 := by kernel_rfl
theorem F142_fn : FnOK2 Tryz.prog 142 (.pl F142) := .pl Tryz.func142 (by kernel_rfl) F142_ok
theorem F143_ok : prepF Tryz.prog ⟨[], [(0, [0, 1]), (1, [4])], []⟩ Tryz.f143 = some F143 := by kernel_rfl
theorem F143_fn : FnOK2 Tryz.prog 143 (.pl F143) := .pl Tryz.func143 (by kernel_rfl) F143_ok
theorem F144_ok : prepF Tryz.prog ⟨[], [(0, [0]), (1, [0, 4]), (2, [0, 4, 10]), (3, [2, 3]), (4, [0, 4, 5]), (5, [0, 2, 4, 5]), (6, [0, 2, 4, 5, 18]), (7, [2, 3]), (8, [0, 4, 5, 6]), (9, [0, 4, 5, 6]), (10, [0, 4, 5, 6, 27]), (11, [0, 4, 5, 6]), (12, [0, 4, 5, 6, 33]), (13, [0, 4, 5, 35]), (14, [0, 4, 5]), (15, [2, 3, 4, 5]), (16, [2, 3, 48]), (17, [2, 3]), (18, [2, 3]), (1000000, [0, 4, 5, 6])], []⟩ Tryz.f144 = some F144 := by kernel_rfl
theorem F144_fn : FnOK2 Tryz.prog 144 (.pl F144) := .pl Tryz.func144 (by kernel_rfl) F144_ok
theorem F145_ok : prepF Tryz.prog ⟨[], [(0, [0, 1]), (1, [0, 1, 11]), (2, [0, 17]), (3, [4]), (4, [0, 5]), (5, [0, 5, 6]), (6, [0, 5, 6, 23]), (7, [0, 5, 6]), (8, [0, 5, 6, 7]), (9, [0, 5, 7]), (10, [5, 7, 34]), (11, [5, 7]), (12, [4]), (13, [4]), (14, [9]), (15, [4])], []⟩ Tryz.f145 = some F145 := by kernel_rfl
theorem F145_fn : FnOK2 Tryz.prog 145 (.pl F145) := .pl Tryz.func145 (by kernel_rfl) F145_ok
theorem F146_ok : prepF Tryz.prog ⟨[], [(0, [0, 1]), (1, [4])], []⟩ Tryz.f146 = some F146 := by kernel_rfl
theorem F146_fn : FnOK2 Tryz.prog 146 (.pl F146) := .pl Tryz.func146 (by kernel_rfl) F146_ok
theorem F148_ok : prepF Tryz.prog ⟨[], [(0, [0]), (1, [2])], []⟩ Tryz.f148 = some F148 := by kernel_rfl
theorem F148_fn : FnOK2 Tryz.prog 148 (.pl F148) := .pl Tryz.func148 (by kernel_rfl) F148_ok
theorem F149_ok : prepF Tryz.prog ⟨[], [(0, [0, 1]), (1, [0, 1, 5, 6]), (2, [0, 1, 5, 6, 7]), (3, [0, 1, 5, 6, 7, 8]), (4, [0, 1, 5, 6, 7, 8, 9]), (5, [0, 1, 5, 6, 7, 8, 9, 20]), (6, [0, 1, 5, 6, 7, 8, 9]), (7, [0, 1, 5, 6, 7, 8, 9]), (8, [0, 1, 5, 6, 7, 8, 39]), (9, [4]), (10, [0, 1, 5, 6, 7, 8, 10]), (11, [0, 1, 5, 6, 7, 8, 10, 44]), (12, [0, 1, 5, 6, 7, 8, 10]), (13, [0, 1, 5, 6, 7, 8, 10]), (14, [0, 1, 5, 6, 7, 8, 10]), (15, [0, 1, 5, 6, 7, 8, 10]), (16, [0, 1, 5, 6, 7, 8, 10, 77]), (17, [4]), (18, [4]), (1000000, [0, 1, 5, 6, 7, 8, 9]), (1000002, [0, 1, 5, 6, 7, 8, 10])], []⟩ Tryz.f149 = some F149 := by kernel_rfl
theorem F149_fn : FnOK2 Tryz.prog 149 (.pl F149) := .pl Tryz.func149 (by kernel_rfl) F149_ok
theorem F150_ok : prepF Tryz.prog ⟨[], [(0, [0, 1, 2, 3, 10]), (1, [0, 1, 2, 3, 10, 13]), (2, [0, 1, 2, 3, 10]), (3, [0, 1, 2, 3, 10]), (1000000, [0, 1, 2, 3, 10])], []⟩ Tryz.f150 = some F150 := by kernel_rfl
theorem F150_fn : FnOK2 Tryz.prog 150 (.pl F150) := .pl Tryz.func150 (by kernel_rfl) F150_ok
theorem F152_ok : prepF Tryz.prog ⟨[], [(0, [0, 1, 2]), (1, [0, 1, 2, 13]), (2, [6, 7]), (3, [0, 1, 2, 8]), (4, [0, 1, 2, 8, 16]), (5, [0, 1, 2, 8, 16, 17]), (6, [0, 1, 2, 8]), (7, [0, 1, 2, 8, 21]), (8, [0, 1, 2]), (9, [0, 1, 2, 8]), (10, [0, 1, 2, 8]), (11, [2, 7, 8, 9]), (12, [2, 7, 8, 9, 38]), (13, [6, 7]), (14, [2, 8, 9, 41]), (15, [2, 8, 9]), (16, [8, 9, 10]), (17, [8, 9, 10, 52]), (18, [6, 7]), (19, [8, 9, 10, 62]), (20, [6, 7]), (21, [8, 11]), (22, [11, 69]), (23, [11]), (24, [6, 7])], []⟩ Tryz.f152 = some F152 := by kernel_rfl
theorem F152_fn : FnOK2 Tryz.prog 152 (.pl F152) := .pl Tryz.func152 (by kernel_rfl) F152_ok
theorem F153_ok : prepF Tryz.prog ⟨[], [(0, [0, 1]), (1, [4])], []⟩ Tryz.f153 = some F153 := by kernel_rfl
theorem F153_fn : FnOK2 Tryz.prog 153 (.pl F153) := .pl Tryz.func153 (by kernel_rfl) F153_ok
theorem F154_ok : prepF Tryz.prog ⟨[], [(0, [0, 1]), (1, [4])], []⟩ Tryz.f154 = some F154 := by kernel_rfl
theorem F154_fn : FnOK2 Tryz.prog 154 (.pl F154) := .pl Tryz.func154 (by kernel_rfl) F154_ok
theorem F155_ok : prepF Tryz.prog ⟨[], [(0, [0, 1, 2]), (1, [6])], []⟩ Tryz.f155 = some F155 := by kernel_rfl
theorem F155_fn : FnOK2 Tryz.prog 155 (.pl F155) := .pl Tryz.func155 (by kernel_rfl) F155_ok
theorem F156_ok : prepF Tryz.prog ⟨[], [(0, [0, 1, 2]), (1, [6])], []⟩ Tryz.f156 = some F156 := by kernel_rfl
theorem F156_fn : FnOK2 Tryz.prog 156 (.pl F156) := .pl Tryz.func156 (by kernel_rfl) F156_ok
theorem F157_ok : prepF Tryz.prog ⟨[9], [(0, [0]), (1, [0, 4]), (2, [0, 4, 16]), (3, [2, 3]), (4, [0, 4, 5]), (5, [0, 4, 5, 6]), (6, [0, 4, 5, 6, 23]), (7, [0, 7]), (8, [2, 3]), (9, [0, 4, 5, 6, 8]), (10, [0, 4, 5, 8, 9]), (11, [0, 5, 8, 9, 45]), (12, [2, 3]), (13, [0, 5, 8, 9, 10]), (14, [0, 5, 8, 10, 57]), (15, [2, 3]), (16, [0, 5, 8, 10, 59]), (17, [2, 3]), (18, [0, 5, 8, 10, 11]), (19, [0, 5, 8, 10, 11, 75]), (20, [2, 3]), (21, [0, 5, 10, 11, 77]), (22, [2, 3]), (23, [5, 10, 11, 12]), (24, [5, 10, 11, 12, 98]), (25, [2, 3]), (26, [2, 3])], []⟩ Tryz.f157 = some F157 := by kernel_rfl
theorem F157_fn : FnOK2 Tryz.prog 157 (.pl F157) := .pl Tryz.func157 (by kernel_rfl) F157_ok
theorem F158_ok : prepF Tryz.prog ⟨[], [(0, [0, 1]), (1, [0, 7]), (2, [0, 7, 8]), (3, [0, 7, 8, 9]), (4, [0, 7, 8, 9]), (5, [0, 7, 8, 9, 26]), (6, [0, 7, 8, 9, 33]), (7, [0, 7, 8, 9, 11]), (8, [0, 7, 8, 9, 11, 43]), (9, [4]), (10, [0, 7, 8, 9]), (11, [0, 7, 8, 9, 12]), (12, [0, 7, 8, 9, 12, 51]), (13, [0, 7, 8, 9, 12]), (14, [0, 7, 8, 9, 12, 64]), (15, [4]), (16, [0, 7, 8, 9, 10]), (17, [0, 7, 8, 9, 10]), (18, [0, 7, 8, 9, 98]), (19, [4]), (20, [8, 9, 13]), (21, [8, 9, 13, 108]), (22, [4]), (23, [0, 7, 8, 9, 14]), (24, [0, 7, 8, 9, 14, 15]), (25, [0, 7, 8, 9, 14, 15, 124]), (26, [0, 7, 8, 9, 14, 15]), (27, [0, 7, 8, 9, 14, 15, 139]), (28, [0, 7, 8, 9, 14, 15, 16]), (29, [0, 7, 8, 9, 14, 15, 16, 143]), (30, [0, 7, 8, 9, 14, 15, 16]), (31, [0, 7, 8, 9, 14, 15, 16, 156]), (32, [4]), (33, [4]), (34, [0, 1, 160]), (35, [4]), (36, [0, 1, 171]), (37, [175]), (38, [175, 176, 177]), (39, [5, 6, 175]), (40, [5, 175, 181]), (41, [4]), (42, [4]), (43, [0, 1, 183]), (44, [4]), (1000001, [0, 7, 8, 9]), (1000003, [0, 7, 8, 9, 12]), (1000005, [0, 7, 8, 9, 14, 15]), (1000007, [0, 7, 8, 9, 14, 15, 16]), (1000009, [175])], []⟩ Tryz.f158 = some F158 := by kernel_rfl
theorem F158_fn : FnOK2 Tryz.prog 158 (.pl F158) := .pl Tryz.func158 (by kernel_rfl) F158_ok
theorem F159_ok : prepF Tryz.prog ⟨[], [(0, [0]), (1, [2])], []⟩ Tryz.f159 = some F159 := by kernel_rfl
theorem F159_fn : FnOK2 Tryz.prog 159 (.pl F159) := .pl Tryz.func159 (by kernel_rfl) F159_ok
theorem F160_ok : prepF Tryz.prog ⟨[], [(0, [0]), (1, [0, 4]), (2, [2]), (3, [2])], []⟩ Tryz.f160 = some F160 := by kernel_rfl
theorem F160_fn : FnOK2 Tryz.prog 160 (.pl F160) := .pl Tryz.func160 (by kernel_rfl) F160_ok
theorem F161_ok : prepF Tryz.prog ⟨[], [(0, [0]), (1, [0, 3]), (2, [2])], []⟩ Tryz.f161 = some F161 := by kernel_rfl
theorem F161_fn : FnOK2 Tryz.prog 161 (.pl F161) := .pl Tryz.func161 (by kernel_rfl) F161_ok
theorem F162_ok : prepF Tryz.prog ⟨[], [(0, [0, 1, 4]), (1, [0, 1, 4, 20]), (2, [0, 1, 4, 5]), (3, [0, 1, 4, 5]), (4, [0, 1, 4, 6, 7]), (5, [0, 1, 4, 6, 8, 9]), (6, [0, 1, 4, 8, 9, 10, 11]), (7, [0, 1, 4, 8, 10, 11]), (8, [0, 1, 4, 10, 11]), (9, [0, 1, 4, 10]), (10, [0, 1, 4]), (11, [0, 1, 4]), (12, [0, 4, 12]), (13, [0, 4, 12, 99]), (14, [0, 4, 12, 13]), (15, [0, 4, 12, 13]), (16, [0, 4, 12, 14, 15]), (17, [0, 4, 12, 14]), (18, [0, 4, 12]), (19, [0, 4, 12]), (20, [0, 4, 12, 139]), (21, [0, 4, 12, 16]), (22, [0, 4, 12, 16]), (23, [0, 4, 12]), (24, [0, 4, 12]), (25, [0, 12, 161]), (26, []), (1000000, [0, 1, 4])], []⟩ Tryz.f162 = some F162 := by kernel_rfl
theorem F162_fn : FnOK2 Tryz.prog 162 (.pl F162) := .pl Tryz.func162 (by kernel_rfl) F162_ok
theorem F163_ok : prepF Tryz.prog ⟨[], [(0, [0, 1, 2, 3, 4, 10, 11]), (1, [0, 1, 2, 3, 4, 10, 11, 28]), (2, [0, 1, 2, 3, 4, 10, 11]), (3, [0, 1, 2, 3, 4, 10, 11, 12]), (4, [0, 1, 2, 3, 4, 10, 11, 12, 13]), (5, [0, 1, 2, 3, 4, 10, 11, 12, 13, 30]), (6, [0, 1, 2, 3, 4, 10, 11, 12, 13]), (7, [0, 1, 2, 3, 4, 10, 11, 12, 13, 34]), (8, [0, 1, 2, 3, 4, 10, 11, 12, 13, 14]), (9, [0, 1, 2, 3, 4, 10, 11, 12, 13, 14, 15]), (10, [0, 1, 3, 4, 10, 11, 12, 13, 14, 15, 16]), (11, [0, 1, 3, 4, 10, 11, 12, 13, 14, 15, 16, 46]), (12, [0, 1, 3, 4, 10, 11, 12, 13, 14, 15, 16]), (13, [0, 1, 3, 4, 10, 11, 12, 13, 14, 15, 16]), (14, [0, 1, 3, 4, 10, 11, 12, 13, 14, 15, 16]), (15, [0, 1, 3, 4, 10, 11, 12, 13]), (16, [0, 3, 4, 10, 11, 12, 13]), (17, [0, 1, 3, 4, 10, 11, 12, 13, 17]), (18, [0, 1, 3, 4, 10, 11, 12, 13, 17, 68]), (19, [0, 1, 3, 4, 10, 11, 12, 13, 17]), (20, [0, 1, 3, 4, 10, 11, 12, 13, 17, 18]), (21, [0, 3, 4, 10, 11, 12, 13, 17, 18]), (22, [0, 1, 3, 4, 10, 11, 12, 13, 17]), (23, [0, 1, 3, 4, 10, 11, 12, 13]), (24, [0, 3, 4, 10, 11, 12, 13]), (25, [0, 4, 10, 11, 12, 13, 89]), (26, [0, 4, 10, 11, 12, 13]), (27, [0, 4, 10, 11, 12, 13]), (28, [0, 10, 11, 12, 13, 94]), (29, [10, 11]), (30, [10, 11]), (1000000, [0, 1, 3, 4, 10, 11, 12, 13, 14, 15, 16]), (1000002, [0, 1, 3, 4, 10, 11, 12, 13, 17])], []⟩ Tryz.f163 = some F163 := by kernel_rfl
theorem F163_fn : FnOK2 Tryz.prog 163 (.pl F163) := .pl Tryz.func163 (by kernel_rfl) F163_ok
theorem F165_ok : prepF Tryz.prog ⟨[], [(0, [0]), (1, [0, 4]), (2, [0, 4, 5]), (3, [0, 4, 5, 12]), (4, [0, 4, 5]), (5, [0, 4, 5]), (6, [0, 4, 6, 7]), (7, [4, 6, 7, 8]), (8, [4, 6, 7, 8, 25]), (9, [4, 6, 7, 8]), (10, [4, 6, 7, 8, 30]), (11, [4, 6, 7, 8]), (12, [4, 6, 7, 8]), (13, [2, 3]), (1000000, [0, 4, 5]), (1000002, [4, 6, 7, 8])], []⟩ Tryz.f165 = some F165 := by kernel_rfl
theorem F165_fn : FnOK2 Tryz.prog 165 (.pl F165) := .pl Tryz.func165 (by kernel_rfl) F165_ok
theorem F166_ok : prepF Tryz.prog ⟨[], [(0, [0, 1, 2]), (1, [0, 1, 2, 19]), (2, [6, 7]), (3, [0, 1, 2, 8]), (4, [0, 1, 2, 8, 9]), (5, [6, 7]), (6, [0, 1, 2, 8, 9, 25]), (7, [0, 2, 8, 9, 32]), (8, [0, 1, 2, 8, 9]), (9, [0, 1, 2, 8, 9, 37]), (10, [0, 1, 2, 8, 9]), (11, [0, 1, 2, 8, 9]), (12, [0, 2, 8, 9, 40]), (13, [0, 1, 2, 8, 9]), (14, [0, 1, 2, 8, 9]), (15, [0, 2, 8, 9, 52]), (16, [0, 1, 2, 8, 9]), (17, [0, 1, 2, 8, 9]), (18, [0, 2, 8, 9, 64]), (19, [0, 1, 2, 8, 9]), (20, [0, 1, 2, 8, 9]), (21, [0, 1, 2, 8, 9, 77]), (22, [0, 1, 2, 8, 9]), (23, [0, 1, 2, 8, 9, 83]), (24, [6, 7]), (25, [0, 1, 2, 8, 9]), (26, [0, 1, 2, 8, 9, 85]), (27, [0, 1, 2, 8, 9, 10]), (28, [0, 1, 2, 8, 9, 85, 90]), (29, [0, 1, 2, 8, 9, 10]), (30, [0, 1, 2, 8, 9, 92]), (31, [0, 1, 2, 8, 9, 10]), (32, [0, 1, 8, 9, 10, 11]), (33, [0, 1, 8, 9, 10, 11, 12]), (34, [0, 1, 8, 9, 10, 11, 12, 13]), (35, [1, 8, 9, 10, 11, 12, 13, 99, 100, 101]), (36, [1, 8, 9, 10, 11, 12, 13, 99, 100, 101, 102]), (37, [1, 8, 9, 10, 11, 12, 13, 15, 99, 100, 101]), (38, [1, 8, 9, 10, 11, 12, 13, 15, 99, 100, 101]), (39, [6, 7]), (40, [1, 8, 9, 10, 11, 12, 13, 15, 99, 100, 101, 106]), (41, [1, 8, 9, 10, 11, 12, 13, 99, 100, 101]), (42, [1, 8, 9, 10, 11, 12, 13, 15, 99, 100, 101, 112]), (43, [1, 8, 9, 10, 11, 12, 13, 16, 99, 100, 101]), (44, [1, 8, 9, 10, 11, 12, 13, 15, 99, 100, 101, 121]), (45, [1, 8, 9, 10, 11, 12, 13, 16, 99, 100, 101]), (46, [1, 8, 9, 10, 11, 12, 13, 16, 99, 100, 101, 137]), (47, [6, 7]), (48, [1, 8, 9, 10, 11, 12, 13, 16, 99, 100, 101, 141]), (49, [6, 7]), (50, [1, 8, 9, 10, 11, 12, 13, 16, 99, 100, 101]), (51, [1, 8, 9, 10, 11, 12, 13, 17, 99, 100, 101]), (52, [1, 8, 9, 10, 11, 12, 17, 99, 100, 101, 159]), (53, [6, 7]), (54, [1, 8, 9, 10, 11, 12, 13, 99, 100, 101]), (55, [1, 8, 9, 10, 11, 12, 13, 99, 100, 101]), (56, [13, 169]), (57, [6, 7]), (58, [6, 7]), (1000003, [1, 8, 9, 10, 11, 12, 13, 99, 100, 101])], []⟩ Tryz.f166 = some F166 := by kernel_rfl
theorem F166_fn : FnOK2 Tryz.prog 166 (.pl F166) := .pl Tryz.func166 (by kernel_rfl) F166_ok
theorem F167_ok : prepF Tryz.prog ⟨[], [(0, [0]), (1, [0, 6]), (2, [2]), (3, [0, 3]), (4, [3]), (5, [2])], []⟩ Tryz.f167 = some F167 := by kernel_rfl
theorem F167_fn : FnOK2 Tryz.prog 167 (.pl F167) := .pl Tryz.func167 (by kernel_rfl) F167_ok
theorem F168_ok : prepF Tryz.prog ⟨[], [(0, [0]), (1, [2])], []⟩ Tryz.f168 = some F168 := by kernel_rfl
theorem F168_fn : FnOK2 Tryz.prog 168 (.pl F168) := .pl Tryz.func168 (by kernel_rfl) F168_ok
theorem F169_ok : prepF Tryz.prog ⟨[], [(0, [0, 1]), (1, [4])], []⟩ Tryz.f169 = some F169 := by kernel_rfl
theorem F169_fn : FnOK2 Tryz.prog 169 (.pl F169) := .pl Tryz.func169 (by kernel_rfl) F169_ok
theorem F170_ok : prepF Tryz.prog ⟨[], [(0, [0]), (1, [0, 3]), (2, [2]), (3, [10]), (4, [2]), (5, [2])], []⟩ Tryz.f170 = some F170 := by kernel_rfl
theorem F170_fn : FnOK2 Tryz.prog 170 (.pl F170) := .pl Tryz.func170 (by kernel_rfl) F170_ok
theorem F171_ok : prepF Tryz.prog ⟨[], [(0, [0]), (1, [2])], []⟩ Tryz.f171 = some F171 := by kernel_rfl
theorem F171_fn : FnOK2 Tryz.prog 171 (.pl F171) := .pl Tryz.func171 (by kernel_rfl) F171_ok
theorem F172_ok : prepF Tryz.prog ⟨[], [(0, [0, 2]), (1, [0, 2, 4]), (2, [0]), (3, [0, 2]), (4, [0, 2, 8]), (5, [0, 2]), (6, [0, 2]), (7, [0, 2, 14]), (8, [0, 2]), (9, [0, 2]), (10, [2])], []⟩ Tryz.f172 = some F172 := by kernel_rfl
theorem F172_fn : FnOK2 Tryz.prog 172 (.pl F172) := .pl Tryz.func172 (by kernel_rfl) F172_ok
theorem F173_ok : prepF Tryz.prog ⟨[], [(0, [0]), (1, [3]), (2, [2]), (3, [2])], []⟩ Tryz.f173 = some F173 := by kernel_rfl
theorem F173_fn : FnOK2 Tryz.prog 173 (.pl F173) := .pl Tryz.func173 (by kernel_rfl) F173_ok
theorem F174_ok : prepF Tryz.prog ⟨[], [(0, [0]), (1, [2])], []⟩ Tryz.f174 = some F174 := by kernel_rfl
theorem F174_fn : FnOK2 Tryz.prog 174 (.pl F174) := .pl Tryz.func174 (by kernel_rfl) F174_ok
theorem F175_ok : prepF Tryz.prog ⟨[], [(0, [0]), (1, [2]), (2, [2])], []⟩ Tryz.f175 = some F175 := by kernel_rfl
theorem F175_fn : FnOK2 Tryz.prog 175 (.pl F175) := .pl Tryz.func175 (by kernel_rfl) F175_ok
theorem F176_ok : prepF Tryz.prog ⟨[], [(0, [0]), (1, [2])], []⟩ Tryz.f176 = some F176 := by kernel_rfl
theorem F176_fn : FnOK2 Tryz.prog 176 (.pl F176) := .pl Tryz.func176 (by kernel_rfl) F176_ok
theorem F177_ok : prepF Tryz.prog ⟨[], [(0, [0]), (1, [0, 3]), (2, [0, 3, 4]), (3, [0, 3, 4, 18]), (4, [0, 3, 4]), (5, [0, 3, 4, 5]), (6, [0, 3, 4, 5, 46]), (7, [0, 4]), (8, [0, 3, 4]), (9, [0, 3, 4, 5]), (10, [0, 3, 4, 5, 54]), (11, [0, 3, 4, 5]), (12, [0, 3, 4, 5, 83]), (13, [0, 3, 4, 5]), (14, [0, 3, 4, 5, 87]), (15, [0, 4, 5, 89]), (16, [2]), (17, [0, 3, 4, 5]), (18, [0, 4, 5, 91]), (19, [2]), (20, [0, 3, 4, 5]), (21, [2]), (1000000, [0, 3, 4, 5])], []⟩ Tryz.f177 = some F177 := by kernel_rfl
theorem F177_fn : FnOK2 Tryz.prog 177 (.pl F177) := .pl Tryz.func177 (by kernel_rfl) F177_ok
theorem F178_ok : prepF Tryz.prog ⟨[], [(0, [0]), (1, [0, 4]), (2, [2]), (3, [2])], []⟩ Tryz.f178 = some F178 := by kernel_rfl
theorem F178_fn : FnOK2 Tryz.prog 178 (.pl F178) := .pl Tryz.func178 (by kernel_rfl) F178_ok
theorem F179_ok : prepF Tryz.prog ⟨[], [(0, [0]), (1, [0, 4]), (2, [2]), (3, [2])], []⟩ Tryz.f179 = some F179 := by kernel_rfl
theorem F179_fn : FnOK2 Tryz.prog 179 (.pl F179) := .pl Tryz.func179 (by kernel_rfl) F179_ok
def tab : List (Nat × DX) := [(3, .pl F3), (6, .pl F6), (8, .pl F8), (9, .pl F9), (10, .pl F10), (11, .pl F11), (12, .pl F12), (13, .pl F13), (14, .pl F14), (15, .pl F15), (16, .pl F16), (17, .pl F17), (21, .pl F21), (23, .pl F23), (24, .pl F24), (28, .pl F28), (30, .pl F30), (32, .pl F32), (33, .pl F33), (34, .pl F34), (35, .pl F35), (36, .pl F36), (37, .pl F37), (38, .pl F38), (39, .pl F39), (40, .pl F40), (41, .pl F41), (42, .pl F42), (43, .pl F43), (44, .pl F44), (49, .pl F49), (52, .pl F52), (53, .pl F53), (54, .pl F54), (56, .pl F56), (57, .pl F57), (58, .pl F58), (59, .pl F59), (60, .pl F60), (61, .pl F61), (62, .pl F62), (63, .pl F63), (66, .pl F66), (67, .pl F67), (68, .pl F68), (70, .pl F70), (71, .pl F71), (72, .pl F72), (73, .pl F73), (74, .pl F74), (75, .pl F75), (76, .pl F76), (77, .pl F77), (78, .pl F78), (80, .pl F80), (84, .pl F84), (85, .pl F85), (86, .pl F86), (87, .pl F87), (88, .pl F88), (89, .pl F89), (90, .pl F90), (91, .pl F91), (92, .pl F92), (96, .pl F96), (97, .pl F97), (98, .pl F98), (99, .pl F99), (100, .pl F100), (101, .pl F101), (102, .pl F102), (103, .pl F103), (104, .pl F104), (105, .pl F105), (106, .pl F106), (107, .pl F107), (108, .pl F108), (109, .pl F109), (111, .pl F111), (112, .pl F112), (119, .pl F119), (120, .pl F120), (121, .pl F121), (122, .pl F122), (123, .pl F123), (124, .pl F124), (125, .pl F125), (126, .pl F126), (127, .pl F127), (128, .pl F128), (129, .pl F129), (130, .pl F130), (131, .pl F131), (132, .pl F132), (133, .pl F133), (137, .pl F137), (138, .pl F138), (139, .pl F139), (140, .pl F140), (141, .pl F141), (142, .pl F142), (143, .pl F143), (144, .pl F144), (145, .pl F145), (146, .pl F146), (148, .pl F148), (149, .pl F149), (150, .pl F150), (152, .pl F152), (153, .pl F153), (154, .pl F154), (155, .pl F155), (156, .pl F156), (157, .pl F157), (158, .pl F158), (159, .pl F159), (160, .pl F160), (161, .pl F161), (162, .pl F162), (163, .pl F163), (165, .pl F165), (166, .pl F166), (167, .pl F167), (168, .pl F168), (169, .pl F169), (170, .pl F170), (171, .pl F171), (172, .pl F172), (173, .pl F173), (174, .pl F174), (175, .pl F175), (176, .pl F176), (177, .pl F177), (178, .pl F178), (179, .pl F179)]
theorem tabOK : TabOK2 Tryz.prog tab :=
  .cons F3_fn <|
  .cons F6_fn <|
  .cons F8_fn <|
  .cons F9_fn <|
  .cons F10_fn <|
  .cons F11_fn <|
  .cons F12_fn <|
  .cons F13_fn <|
  .cons F14_fn <|
  .cons F15_fn <|
  .cons F16_fn <|
  .cons F17_fn <|
  .cons F21_fn <|
  .cons F23_fn <|
  .cons F24_fn <|
  .cons F28_fn <|
  .cons F30_fn <|
  .cons F32_fn <|
  .cons F33_fn <|
  .cons F34_fn <|
  .cons F35_fn <|
  .cons F36_fn <|
  .cons F37_fn <|
  .cons F38_fn <|
  .cons F39_fn <|
  .cons F40_fn <|
  .cons F41_fn <|
  .cons F42_fn <|
  .cons F43_fn <|
  .cons F44_fn <|
  .cons F49_fn <|
  .cons F52_fn <|
  .cons F53_fn <|
  .cons F54_fn <|
  .cons F56_fn <|
  .cons F57_fn <|
  .cons F58_fn <|
  .cons F59_fn <|
  .cons F60_fn <|
  .cons F61_fn <|
  .cons F62_fn <|
  .cons F63_fn <|
  .cons F66_fn <|
  .cons F67_fn <|
  .cons F68_fn <|
  .cons F70_fn <|
  .cons F71_fn <|
  .cons F72_fn <|
  .cons F73_fn <|
  .cons F74_fn <|
  .cons F75_fn <|
  .cons F76_fn <|
  .cons F77_fn <|
  .cons F78_fn <|
  .cons F80_fn <|
  .cons F84_fn <|
  .cons F85_fn <|
  .cons F86_fn <|
  .cons F87_fn <|
  .cons F88_fn <|
  .cons F89_fn <|
  .cons F90_fn <|
  .cons F91_fn <|
  .cons F92_fn <|
  .cons F96_fn <|
  .cons F97_fn <|
  .cons F98_fn <|
  .cons F99_fn <|
  .cons F100_fn <|
  .cons F101_fn <|
  .cons F102_fn <|
  .cons F103_fn <|
  .cons F104_fn <|
  .cons F105_fn <|
  .cons F106_fn <|
  .cons F107_fn <|
  .cons F108_fn <|
  .cons F109_fn <|
  .cons F111_fn <|
  .cons F112_fn <|
  .cons F119_fn <|
  .cons F120_fn <|
  .cons F121_fn <|
  .cons F122_fn <|
  .cons F123_fn <|
  .cons F124_fn <|
  .cons F125_fn <|
  .cons F126_fn <|
  .cons F127_fn <|
  .cons F128_fn <|
  .cons F129_fn <|
  .cons F130_fn <|
  .cons F131_fn <|
  .cons F132_fn <|
  .cons F133_fn <|
  .cons F137_fn <|
  .cons F138_fn <|
  .cons F139_fn <|
  .cons F140_fn <|
  .cons F141_fn <|
  .cons F142_fn <|
  .cons F143_fn <|
  .cons F144_fn <|
  .cons F145_fn <|
  .cons F146_fn <|
  .cons F148_fn <|
  .cons F149_fn <|
  .cons F150_fn <|
  .cons F152_fn <|
  .cons F153_fn <|
  .cons F154_fn <|
  .cons F155_fn <|
  .cons F156_fn <|
  .cons F157_fn <|
  .cons F158_fn <|
  .cons F159_fn <|
  .cons F160_fn <|
  .cons F161_fn <|
  .cons F162_fn <|
  .cons F163_fn <|
  .cons F165_fn <|
  .cons F166_fn <|
  .cons F167_fn <|
  .cons F168_fn <|
  .cons F169_fn <|
  .cons F170_fn <|
  .cons F171_fn <|
  .cons F172_fn <|
  .cons F173_fn <|
  .cons F174_fn <|
  .cons F175_fn <|
  .cons F176_fn <|
  .cons F177_fn <|
  .cons F178_fn <|
  .cons F179_fn <|
  .nil
end Go.Proofs.C1
