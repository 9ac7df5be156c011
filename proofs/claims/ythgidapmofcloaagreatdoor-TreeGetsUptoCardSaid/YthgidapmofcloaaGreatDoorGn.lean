/- The entry of laws about steps. Trees: a copy whose lists are one's own, and may be written. Trees: the part to which a path leads, and the tree with it replaced: what they are; the program's Get and Set. A list of values that is made for one append. A slice of data that stays, from a place on, reads as one from its beginning. Trees: a tree with a part replaced: the program's set and Set. Trees: the part to which a path leads, and the tree with it replaced: the reference's answers. The law TreeGets, walked. The code is the program's,printed by a program (Gen). errors.As and errors.Is at the targets that 'refused' hands them ('**text.Refusal', 'api.Errno'), walked after the worked proofs of toyas and sentry; then as contracts over the abstract store. errors.As and errors.Is as contracts over the abstract store. What the listed variables give: 'errors.errorType' holds the handle of the type 'error'; a world that meets the condition; the law without arguments, run by the kernel. The functions that 'emendlaw3.TreeGets' reaches, and itself, as contracts, each by its code. The row of 'emendlaw3.TreeGets': what is read, and that the call returns true. -/
import Derived.Test.YthgidapmofcloaaGreatDoorProg
import Derived.WalkKit
import Derived.LaidEql
import Derived.Stop.Asserts
import Derived.RowKitTokens
import Derived.Lib.IfaceEq
import Derived.Test.YthgidapmofcloaaGreatDoorTie
import Derived.Test.YthgidapmofcloaaGreatDoorCards
import Derived.ProofKit
import Derived.LaidMore
import Derived.LaidHandle
import Derived.OpenShut
import Derived.Stop.Joined
import Derived.Lay
import Derived.SevenTiedAt
import Derived.Carry
import Derived.Deep.DeepHandedRow
import Derived.Deep.DeepWitnessRowRef
import Derived.Test.YthgidapmofcloaaGreatDoorGm
set_option linter.unusedSimpArgs false
set_option linter.unusedVariables false
namespace Go.Proofs.YthgidapmofcloaaGreatDoor
open Go.Dn

theorem c_step : Tryz.prog.cellsOf 40 = 2 := by kernel_rfl
theorem a_step : isAggP Tryz.prog 40 = some true := by kernel_rfl
theorem u_steps : Tryz.prog.underlying 60 = some (.slice 40) := by kernel_rfl
theorem list_steps {ys : List AV} (h : ∀ y ∈ ys, ∃ t : PS, y = encS t) : ∃ l, ys = encSs l := by
  induction ys with
  | nil => exact ⟨[], rfl⟩
  | cons y r ih =>
    obtain ⟨l, h1⟩ := ih fun z hz => h z (by simp [hz])
    obtain ⟨t, h3⟩ := h y (by simp)
    exact ⟨t :: l, by rw [h1, h3]; rfl⟩

set_option maxRecDepth 100000 in
theorem av_step {d : Nat} {xs : List AV} (h : AVB Tryz.prog d 40 xs) : ∃ t : PS, .agg xs = encS t := by
  cases d with
  | zero => exact h.elim
  | succ d =>
    unfold AVB at h
    rw [Tryz.underlying40] at h
    obtain ⟨hl, h⟩ := h
    rw [c_step] at hl
    obtain ⟨x0, x1, rfl⟩ := two hl
    simp only [List.forall_mem_cons] at h
    simp only [c_int, c_str] at h
    obtain ⟨f0, f1, _⟩ := h
    obtain ⟨s, rfl⟩ := av_str f0
    obtain ⟨k, rfl⟩ := av_int f1
    exact ⟨⟨s, k⟩, rfl⟩

set_option maxRecDepth 100000 in
theorem av_steps {d : Nat} {xs : List AV} (h : AVB Tryz.prog d 60 xs) : ∃ l, xs = [.sl 2 stat (encSs l)] := by
  cases d with
  | zero => exact h.elim
  | succ d =>
    unfold AVB at h
    rw [u_steps] at h
    obtain ⟨ys, rfl, g⟩ := h
    rw [c_step]
    obtain ⟨l, rfl⟩ := list_steps (ys := ys) fun y hy => by
      obtain ⟨k1, k2, _⟩ := g y hy
      obtain ⟨cs, rfl⟩ := k2 a_step
      exact av_step k1
    exact ⟨l, rfl⟩

theorem bulk_Ss (l : List PS) : l.length ≤ bulkAs (encSs l) := by
  induction l with
  | nil => exact Nat.zero_le _
  | cons s r ih =>
    have : encSs (s :: r) = encS s :: encSs r := rfl
    rw [this]
    simp only [bulkAs, List.length_cons]
    have : 1 ≤ bulkA (encS s) := by simp only [encS, bulkA]; omega
    omega
end Go.Proofs.YthgidapmofcloaaGreatDoor

namespace Go.Dn
open Go Go.Proofs.C1
set_option maxRecDepth 100000
attribute [local irreducible] afterS keepE

theorem strs_flat : ∀ l : List (List UInt8), ((strs l).flatMap AV.cells).length = (strs l).length * 1
  | [] => rfl
  | t :: r => by
    show (AV.cells (.str t) ++ (strs r).flatMap AV.cells).length = _
    rw [List.length_append, strs_flat r]
    show 1 + _ = (_ + 1) * 1
    rw [Nat.add_mul, Nat.add_comm]; rfl

/-! ### a list of one's own is written in place -/
theorem Hs.front {S : St} {R L : List Rs} (h : Hs S (R ++ L)) : Hs S R :=
  h.less id (fun i j _ _ e => e) fun i hi => by rw [id, List.getElem?_append_left hi]

/-- a slice that has grown, and may have been written since -/
def Wrt (S : St) (R : List Rs) (es : Nat) (o : SI) (xs : List AV) : Prop :=
  (xs.flatMap AV.cells).length = xs.length * es ∧ ((∃ ty, Hs S (R ++ [.gr ty o xs])) ∨ ∃ ty t l b cs, o = ⟨some (t, l), 0, none, false⟩ ∧ cs.length = xs.length * es ∧ Hs S ((R ++ [.bx b ty cs]) ++ [.mk t l b]))

theorem Wrt.front {S : St} {R : List Rs} {es : Nat} {o : SI} {xs : List AV} (h : Wrt S R es o xs) : Hs S R := by
  rcases h.2 with ⟨_, h⟩ | ⟨_, _, _, _, _, _, _, h⟩
  · exact h.front
  · exact h.front.front

theorem splice_len {cs new : List AV} {off : Nat} (h : off + new.length ≤ cs.length) : (splice cs off new).length = cs.length := by
  simp only [splice, List.length_append, List.length_take, List.length_drop]; omega

theorem blt_true {a b : Nat} (h : a < b) : Nat.blt a b = true := Nat.ble_eq_true_of_le h

theorem wrt_st {gt : GT} {S : St} {R : List Rs} {es : Nat} {o : SI} {xs : List AV} (h : Wrt S R es o xs) {d : Option Nat} {env : Env} {a x : DOpd} {k off sz : Nat} {v : AV}
    (ha : loc env a = some (.el es o xs k off)) (hx : opd env x = some v) (hv : (Nat.beq v.cells.length sz && v.cells.all ok1) = true) (hk : k < xs.length) (ho : off + v.cells.length ≤ es) :
    ∃ S', stepO gt d env S (.st sz a x) = .done (putV d .undef env) S' ∧ Wrt S' R es o xs := by
  obtain ⟨hc, h⟩ := h
  have hmul : (k + 1) * es ≤ xs.length * es := Nat.mul_le_mul_right _ hk
  rw [Nat.add_mul] at hmul
  rcases h with ⟨ty, h⟩ | ⟨ty, t, l, b, cs, rfl, hcs, h⟩
  · have hg := h.ok R.length _ (by rw [List.getElem?_append_right (Nat.le_refl _), Nat.sub_self]; rfl)
    rcases hg with ⟨_, _, _, rfl⟩ | ⟨t, l, rfl, h1, h2, h5, h3, h4⟩
    · simp at hk
    have hrd : rd S ⟨some (t, l), 0, none, false⟩ = .here := by simp only [rd, h3, h4]
    have hguard : (Nat.beq 0 0 && (Nat.beq xs.length xs.length && (Nat.blt k xs.length && Nat.ble (off + v.cells.length) es))) = true := by
      rw [Nat.beq_refl, Nat.beq_refl, blt_true hk, ble_true ho]; rfl
    refine ⟨{ S with nb := S.nb + 1, boxes := (S.nb, some (ty, splice (xs.flatMap AV.cells) (k * es + off) v.cells)) :: (S.nb, some (ty, xs.flatMap AV.cells)) :: S.boxes, mv := (t, .bx S.nb 0) :: S.mv, dl := (l, ()) :: S.dl, tip := (t, none) :: S.tip }, ?_, hc, .inr ⟨ty, t, l, S.nb, splice (xs.flatMap AV.cells) (k * es + off) v.cells, rfl, by rw [splice_len (by rw [hc]; omega), hc], ?_⟩⟩
    · simp only [stepO, ha, hx, hv, cond_true, stL, hrd, h5, hguard]
    · have hset : (R ++ [Rs.gr ty ⟨some (t, l), 0, none, false⟩ xs]).set R.length (.bx S.nb ty (splice (xs.flatMap AV.cells) (k * es + off) v.cells)) = R ++ [Rs.bx S.nb ty (splice (xs.flatMap AV.cells) (k * es + off) v.cells)] := by simp
      have hR : ∀ (j : Nat) (s : Rs), j ≠ R.length → (R ++ [.gr ty ⟨some (t, l), 0, none, false⟩ xs])[j]? = some s → RsDj (.gr ty ⟨some (t, l), 0, none, false⟩ xs) s := fun j s hj hs =>
        h.dj R.length j _ s (fun e => hj e.symm) (by rw [List.getElem?_append_right (Nat.le_refl _), Nat.sub_self]; rfl) hs
      have hw' : Wf { S with nb := S.nb + 1, boxes := (S.nb, some (ty, splice (xs.flatMap AV.cells) (k * es + off) v.cells)) :: (S.nb, some (ty, xs.flatMap AV.cells)) :: S.boxes, mv := (t, .bx S.nb 0) :: S.mv, dl := (l, ()) :: S.dl, tip := (t, none) :: S.tip } := fun q hq => by
        have := h.wf q hq
        simp only at hq ⊢
        exact ⟨by rw [lk_ne _ _ (by omega)]; exact this.1, by rw [lk_ne _ _ (by omega)]; exact this.2⟩
      have h' := h.turn (T := fun q => q = t) (L := fun q => q = l) (M := fun _ => False) (B := fun _ => False) (i := R.length) (r' := .bx S.nb ty (splice (xs.flatMap AV.cells) (k * es + off) v.cells)) hw'
        ⟨Nat.le_refl _, Nat.le_succ _, Nat.le_refl _, fun q hq hne => ⟨lk_ne _ _ (fun e => hne e.symm), lk_ne _ _ (fun e => hne e.symm)⟩, fun q hq hne => lk_ne _ _ (fun e => hne e.symm), fun q m hq hm => ?_, fun _ _ _ => rfl, fun q hq _ => ?_⟩ (fun j s hj hs => ?_) ⟨Nat.lt_succ_self _, lk_same _ _ _⟩ (fun j s hj hs => ?_)
      · rw [hset] at h'
        exact h'.more hw' ⟨Nat.le_refl _, Nat.le_refl _, Nat.le_refl _, fun _ _ _ => ⟨rfl, rfl⟩, fun _ _ _ => rfl, fun _ _ _ h => h, fun _ _ _ => rfl, fun _ _ _ => rfl⟩ (r' := .mk t l S.nb) ⟨h1, h2, lk_same _ _ _⟩ fun j s _ => by cases s <;> trivial
      · by_cases e : q = t
        · subst e; rw [h3] at hm; cases hm
        · show lk ((t, _) :: S.mv) q = _
          rw [lk_ne _ _ (fun e' => e e'.symm)]; exact hm
      · show lk ((S.nb, _) :: (S.nb, _) :: S.boxes) q = _
        rw [lk_ne _ _ (by omega), lk_ne _ _ (by omega)]
      · have hd := hR j s hj hs
        cases s with
        | gr ty2 o2 zs => intro t2 l2 e2; exact ⟨fun e => (hd t l t2 l2 rfl e2).1 e.symm, fun e => (hd t l t2 l2 rfl e2).2 e.symm⟩
        | _ => simp [Rs.off]
      · have hsk := h.ok j s hs
        cases s with
        | bx i ty2 es2 => intro e; have := hsk.1; omega
        | _ => trivial
  · have e1 : ((R ++ [.bx b ty cs]) ++ [.mk t l b])[R.length]? = some (.bx b ty cs) := by simp
    have e2 : ((R ++ [.bx b ty cs]) ++ [.mk t l b])[R.length + 1]? = some (.mk t l b) := by simp
    have hb := (h.ok _ _ e1).2
    have hm := h.ok _ _ e2
    have hg : (Nat.ble (off + v.cells.length) es && (Nat.blt k xs.length && Nat.ble (0 + (0 + k) * es + off + v.cells.length) cs.length)) = true := by
      rw [ble_true ho, blt_true hk, ble_true (by rw [hcs, Nat.zero_add, Nat.zero_add]; omega)]; rfl
    refine ⟨{ S with boxes := (b, some (ty, splice cs (0 + (0 + k) * es + off) v.cells)) :: S.boxes }, ?_, hc, .inr ⟨ty, t, l, b, splice cs (0 + (0 + k) * es + off) v.cells, rfl, by rw [splice_len (by rw [hcs, Nat.zero_add, Nat.zero_add]; omega), hcs], ?_⟩⟩
    · have hrd : rd S ⟨some (t, l), 0, none, false⟩ = .box b 0 := by simp only [rd, hm.2.2]
      simp only [stepO, ha, hx, hv, cond_true, stL, hrd, hb, hg]
    · have := h.boxTo e1 (splice cs (0 + (0 + k) * es + off) v.cells)
      rwa [show ((R ++ [Rs.bx b ty cs]) ++ [Rs.mk t l b]).set R.length (Rs.bx b ty (splice cs (0 + (0 + k) * es + off) v.cells)) = (R ++ [Rs.bx b ty (splice cs (0 + (0 + k) * es + off) v.cells)]) ++ [Rs.mk t l b] by simp] at this

/-- a slice that has grown is written for the first time: an array from now on -/
theorem gr_st0 {gt : GT} {S : St} {R : List Rs} {ty : TypeId} {es : Nat} {o : SI} {xs : List AV} (h : Hs S (R ++ [.gr ty o xs])) (hc : (xs.flatMap AV.cells).length = xs.length * es) {d : Option Nat} {env : Env} {a x : DOpd} {k off sz : Nat} {v : AV}
    (ha : loc env a = some (.el es o xs k off)) (hx : opd env x = some v) (hv : (Nat.beq v.cells.length sz && v.cells.all ok1) = true) (hk : k < xs.length) (ho : off + v.cells.length ≤ es) :
    ∃ S', stepO gt d env S (.st sz a x) = .done (putV d .undef env) S' ∧ ∃ t l b, o = ⟨some (t, l), 0, none, false⟩ ∧ Hs S' ((R ++ [.bx b ty (splice (xs.flatMap AV.cells) (k * es + off) v.cells)]) ++ [.mk t l b]) := by
  have hg := h.ok R.length _ (by rw [List.getElem?_append_right (Nat.le_refl _), Nat.sub_self]; rfl)
  rcases hg with ⟨_, _, _, rfl⟩ | ⟨t, l, rfl, h1, h2, h5, h3, h4⟩
  · simp at hk
  have hrd : rd S ⟨some (t, l), 0, none, false⟩ = .here := by simp only [rd, h3, h4]
  have hguard : (Nat.beq 0 0 && (Nat.beq xs.length xs.length && (Nat.blt k xs.length && Nat.ble (off + v.cells.length) es))) = true := by
    rw [Nat.beq_refl, Nat.beq_refl, blt_true hk, ble_true ho]; rfl
  refine ⟨{ S with nb := S.nb + 1, boxes := (S.nb, some (ty, splice (xs.flatMap AV.cells) (k * es + off) v.cells)) :: (S.nb, some (ty, xs.flatMap AV.cells)) :: S.boxes, mv := (t, .bx S.nb 0) :: S.mv, dl := (l, ()) :: S.dl, tip := (t, none) :: S.tip }, ?_, t, l, S.nb, rfl, ?_⟩
  · simp only [stepO, ha, hx, hv, cond_true, stL, hrd, h5, hguard]
  · have hset : (R ++ [Rs.gr ty ⟨some (t, l), 0, none, false⟩ xs]).set R.length (.bx S.nb ty (splice (xs.flatMap AV.cells) (k * es + off) v.cells)) = R ++ [Rs.bx S.nb ty (splice (xs.flatMap AV.cells) (k * es + off) v.cells)] := by simp
    have hR : ∀ (j : Nat) (s : Rs), j ≠ R.length → (R ++ [.gr ty ⟨some (t, l), 0, none, false⟩ xs])[j]? = some s → RsDj (.gr ty ⟨some (t, l), 0, none, false⟩ xs) s := fun j s hj hs =>
      h.dj R.length j _ s (fun e => hj e.symm) (by rw [List.getElem?_append_right (Nat.le_refl _), Nat.sub_self]; rfl) hs
    have hw' : Wf { S with nb := S.nb + 1, boxes := (S.nb, some (ty, splice (xs.flatMap AV.cells) (k * es + off) v.cells)) :: (S.nb, some (ty, xs.flatMap AV.cells)) :: S.boxes, mv := (t, .bx S.nb 0) :: S.mv, dl := (l, ()) :: S.dl, tip := (t, none) :: S.tip } := fun q hq => by
      have := h.wf q hq
      simp only at hq ⊢
      exact ⟨by rw [lk_ne _ _ (by omega)]; exact this.1, by rw [lk_ne _ _ (by omega)]; exact this.2⟩
    have h' := h.turn (T := fun q => q = t) (L := fun q => q = l) (M := fun _ => False) (B := fun _ => False) (i := R.length) (r' := .bx S.nb ty (splice (xs.flatMap AV.cells) (k * es + off) v.cells)) hw'
      ⟨Nat.le_refl _, Nat.le_succ _, Nat.le_refl _, fun q hq hne => ⟨lk_ne _ _ (fun e => hne e.symm), lk_ne _ _ (fun e => hne e.symm)⟩, fun q hq hne => lk_ne _ _ (fun e => hne e.symm), fun q m hq hm => ?_, fun _ _ _ => rfl, fun q hq _ => ?_⟩ (fun j s hj hs => ?_) ⟨Nat.lt_succ_self _, lk_same _ _ _⟩ (fun j s hj hs => ?_)
    · rw [hset] at h'
      exact h'.more hw' ⟨Nat.le_refl _, Nat.le_refl _, Nat.le_refl _, fun _ _ _ => ⟨rfl, rfl⟩, fun _ _ _ => rfl, fun _ _ _ h => h, fun _ _ _ => rfl, fun _ _ _ => rfl⟩ (r' := .mk t l S.nb) ⟨h1, h2, lk_same _ _ _⟩ fun j s _ => by cases s <;> trivial
    · by_cases e : q = t
      · subst e; rw [h3] at hm; cases hm
      · show lk ((t, _) :: S.mv) q = _
        rw [lk_ne _ _ (fun e' => e e'.symm)]; exact hm
    · show lk ((S.nb, _) :: (S.nb, _) :: S.boxes) q = _
      rw [lk_ne _ _ (by omega), lk_ne _ _ (by omega)]
    · have hd := hR j s hj hs
      cases s with
      | gr ty2 o2 zs => intro t2 l2 e2; exact ⟨fun e => (hd t l t2 l2 rfl e2).1 e.symm, fun e => (hd t l t2 l2 rfl e2).2 e.symm⟩
      | _ => simp [Rs.off]
    · have hsk := h.ok j s hs
      cases s with
      | bx i ty2 es2 => intro e; have := hsk.1; omega
      | _ => trivial

theorem gr_st {gt : GT} {S : St} {R : List Rs} {ty : TypeId} {es : Nat} {o : SI} {xs : List AV} (h : Hs S (R ++ [.gr ty o xs])) (hsz : ∀ y ∈ xs, y.cells.length = es) {d : Option Nat} {env : Env} {a x : DOpd} {k off sz : Nat} {v v' : AV}
    (ha : loc env a = some (.el es o xs k off)) (hx : opd env x = some v) (hv : (Nat.beq v.cells.length sz && v.cells.all ok1) = true) (hk : k < xs.length) (ho : off + v.cells.length ≤ es) (hv' : v'.cells = splice xs[k].cells off v.cells) :
    ∃ S', stepO gt d env S (.st sz a x) = .done (putV d .undef env) S' ∧ ∃ t l b, o = ⟨some (t, l), 0, none, false⟩ ∧ Hs S' ((R ++ [.bx b ty ((xs.set k v').flatMap AV.cells ++ [])]) ++ [.mk t l b]) := by
  have hspl : splice (xs.flatMap AV.cells) (k * es + off) v.cells = (xs.set k v').flatMap AV.cells ++ [] := by
    rw [set_split hk, List.append_nil]
    conv => lhs; rw [split_at hk]
    simp only [List.flatMap_append, List.flatMap_cons]
    refine splice_mid ?_ ?_ hv'
    · rw [flat_length fun y hy => hsz y (List.mem_of_mem_take hy), List.length_take, Nat.min_eq_left (by omega)]
    · rw [hsz _ (List.getElem_mem _)]; exact ho
  rw [← hspl]
  exact gr_st0 h (flat_length hsz) ha hx hv hk ho

theorem st_runP {C : CallT} {gt : GT} {d : Option Nat} {op : DOp} {gd : Option (Nat × Bool)} {env env' : Env} {S : St} {P : St → Prop} {K : Env → St → Prop} {Q : Ex → Env → St → Prop} (h : ∃ S', stepO gt d env S op = .done env' S' ∧ P S') (hg : Gd env gd) (k : ∀ S', P S' → K env' S') : afterS C d env S K Q (stepI gt ⟨d, op, gd⟩ env S) := by
  obtain ⟨S', h1, h2⟩ := h
  exact st_any hg h1 (k S' h2)

section
variable {gt : GT} {C : CallT}

/-- a copy of a tree, its lists one's own -/
def OwnT (t : PT) (r : Res) (S : St) : Prop := ∃ o1 o2, r = .ret (.agg [.int .i64 t.k, .str t.s, .sl 1 o1 (strs t.keys), .sl 4 o2 (encTs t.kids)]) ∧ Hs S [.gr 9 o1 (strs t.keys), .gr 25 o2 (encTs t.kids)]

set_option maxHeartbeats 2000000 in
theorem copyOwn_wp (hm : MonoC C) {t : PT} (ih : ∀ u, u.ok → PF C 31 [encT u] (encT u)) (hk : t.ok) : wpF gt C F31 [encT t] St.init (OwnT t) := by
  obtain ⟨k, s, keys, kids⟩ := t
  simp only [PT.ok] at hk
  obtain ⟨hk1, hk2, hk3⟩ := hk
  refine ⟨rfl, ?_⟩
  have hR := (Hs.init.addNil 9 true).addNil 25 true
  (try refine And.intro (by rfl) ?_); (conv => whnf); repeat (first | (refine sI (by rfl) ?_; conv => whnf) | (refine sD (by rfl) (by rfl) ?_; conv => whnf) | (generalize hE : keepE _ _ = e0; revert hE; apply kI; (repeat (first | exact kN _ | (apply kC; with_unfolding_all rfl; rfl))); rintro rfl; (conv => whnf); conv => whnf))
  refine r_app hR 0 rfl trivial rfl rfl rfl (by rw [strs_length]; simpa using hk1) (by rw [strs_length]; simp; omega) (by decide) (by decide) (cells_strs keys) ?_
  intro o1 S1 hR
  (try refine And.intro (by rfl) ?_); (conv => whnf); repeat (first | (refine sI (by rfl) ?_; conv => whnf) | (refine sD (by rfl) (by rfl) ?_; conv => whnf) | (generalize hE : keepE _ _ = e0; revert hE; apply kI; (repeat (first | exact kN _ | (apply kC; with_unfolding_all rfl; rfl))); rintro rfl; (conv => whnf); conv => whnf))
  have hlen := encTs_len kids
  refine loop_rule hm (α := Nat) (fun i env S' => i ≤ kids.length ∧ ∃ o2, Hs S' [.gr 9 o1 (strs keys), .gr 25 o2 (encTs (kids.take i))] ∧ env = E_copy (.mk k s keys kids) k s keys o1 o2 kids (kids.take i) i) (fun i => kids.length - i) ?_ (a := 0) ⟨Nat.zero_le _, _, hR, rfl⟩
  rintro i env S' ⟨hi, o2, hR, rfl⟩
  (try refine And.intro (by rfl) ?_); (conv => whnf); repeat (first | (refine sI (by rfl) ?_; conv => whnf) | (refine sD (by rfl) (by rfl) ?_; conv => whnf) | (generalize hE : keepE _ _ = e0; revert hE; apply kI; (repeat (first | exact kN _ | (apply kC; with_unfolding_all rfl; rfl))); rintro rfl; (conv => whnf); conv => whnf))
  by_cases h : (i : Int) < (encTs kids).length
  · rw [decide_eq_true h]
    (try refine And.intro (by rfl) ?_); (conv => whnf); repeat (first | (refine sI (by rfl) ?_; conv => whnf) | (refine sD (by rfl) (by rfl) ?_; conv => whnf) | (generalize hE : keepE _ _ = e0; revert hE; apply kI; (repeat (first | exact kN _ | (apply kC; with_unfolding_all rfl; rfl))); rintro rfl; (conv => whnf); conv => whnf))
    have hik : i < kids.length := by omega
    refine step_ruleO (sx_ia (k := i) rfl rfl (by omega)) ?_
    (try refine And.intro (by rfl) ?_); (conv => whnf); repeat (first | (refine sI (by rfl) ?_; conv => whnf) | (refine sD (by rfl) (by rfl) ?_; conv => whnf) | (generalize hE : keepE _ _ = e0; revert hE; apply kI; (repeat (first | exact kN _ | (apply kC; with_unfolding_all rfl; rfl))); rintro rfl; (conv => whnf); conv => whnf))
    refine step_ruleO (sx_ldEl (agg := true) rfl rfl (encTs_get hik) (rdT _)) ?_
    have ihk := ih _ (PT.oks_get hk3 (List.getElem?_eq_getElem hik))
    have hok := encT_ok kids[i]
    have hts : encTs (kids.take (i + 1)) = encTs (kids.take i) ++ [encT kids[i]] := by rw [List.take_succ_eq_append_getElem hik, encTs_app]; rfl
    obtain ⟨ka, sa, xa, ya, he⟩ := encT_agg kids[i]
    rw [he] at ihk hts hok ⊢
    (try refine And.intro (by rfl) ?_); (conv => whnf); repeat (first | (refine sI (by rfl) ?_; conv => whnf) | (refine sD (by rfl) (by rfl) ?_; conv => whnf) | (generalize hE : keepE _ _ = e0; revert hE; apply kI; (repeat (first | exact kN _ | (apply kC; with_unfolding_all rfl; rfl))); rintro rfl; (conv => whnf); conv => whnf))
    refine call_pfD hm (by rfl) ihk ?_
    (try refine And.intro (by rfl) ?_); (conv => whnf); repeat (first | (refine sI (by rfl) ?_; conv => whnf) | (refine sD (by rfl) (by rfl) ?_; conv => whnf) | (generalize hE : keepE _ _ = e0; revert hE; apply kI; (repeat (first | exact kN _ | (apply kC; with_unfolding_all rfl; rfl))); rintro rfl; (conv => whnf); conv => whnf))
    have hlt : (encTs (kids.take i)).length = i := by rw [encTs_len, List.length_take]; omega
    refine r_appD hR 1 rfl (by trivial) rfl rfl rfl (by rw [hlt]; simp; omega) (by rw [hlt]; simp; omega) (by decide) (by decide) hok ?_
    intro o3 S3 hR
    (try refine And.intro (by rfl) ?_); (conv => whnf); repeat (first | (refine sI (by rfl) ?_; conv => whnf) | (refine sD (by rfl) (by rfl) ?_; conv => whnf) | (generalize hE : keepE _ _ = e0; revert hE; apply kI; (repeat (first | exact kN _ | (apply kC; with_unfolding_all rfl; rfl))); rintro rfl; (conv => whnf); conv => whnf))
    refine ⟨i + 1, ⟨by omega, o3, by rw [hts]; exact hR, ?_⟩, by omega⟩
    rw [wrNat (by omega)]
    simp only [E_copy, hts]
    try rfl
  · rw [decide_eq_false h]
    (try refine And.intro (by rfl) ?_); (conv => whnf); repeat (first | (refine sI (by rfl) ?_; conv => whnf) | (refine sD (by rfl) (by rfl) ?_; conv => whnf) | (generalize hE : keepE _ _ = e0; revert hE; apply kI; (repeat (first | exact kN _ | (apply kC; with_unfolding_all rfl; rfl))); rintro rfl; (conv => whnf); conv => whnf))
    have : kids.take i = kids := List.take_of_length_le (by omega)
    rw [this] at hR ⊢
    exact ⟨_, rfl, o1, o2, rfl, hR⟩

set_option maxHeartbeats 2000000 in
theorem copy3Own_wp (hm : MonoC C) {t : PT} (ih : ∀ u, u.ok → PF C 37 [encT u] (encT u)) (hk : t.ok) : wpF gt C F37 [encT t] St.init (OwnT t) := by
  obtain ⟨k, s, keys, kids⟩ := t
  simp only [PT.ok] at hk
  obtain ⟨hk1, hk2, hk3⟩ := hk
  refine ⟨rfl, ?_⟩
  have hR := (Hs.init.addNil 9 true).addNil 25 true
  (try refine And.intro (by rfl) ?_); (conv => whnf); repeat (first | (refine sI (by rfl) ?_; conv => whnf) | (refine sD (by rfl) (by rfl) ?_; conv => whnf) | (generalize hE : keepE _ _ = e0; revert hE; apply kI; (repeat (first | exact kN _ | (apply kC; with_unfolding_all rfl; rfl))); rintro rfl; (conv => whnf); conv => whnf))
  refine r_app hR 0 rfl trivial rfl rfl rfl (by rw [strs_length]; simpa using hk1) (by rw [strs_length]; simp; omega) (by decide) (by decide) (cells_strs keys) ?_
  intro o1 S1 hR
  (try refine And.intro (by rfl) ?_); (conv => whnf); repeat (first | (refine sI (by rfl) ?_; conv => whnf) | (refine sD (by rfl) (by rfl) ?_; conv => whnf) | (generalize hE : keepE _ _ = e0; revert hE; apply kI; (repeat (first | exact kN _ | (apply kC; with_unfolding_all rfl; rfl))); rintro rfl; (conv => whnf); conv => whnf))
  have hlen := encTs_len kids
  refine loop_rule hm (α := Nat) (fun i env S' => i ≤ kids.length ∧ ∃ o2, Hs S' [.gr 9 o1 (strs keys), .gr 25 o2 (encTs (kids.take i))] ∧ env = E_copy3 (.mk k s keys kids) k s keys o1 o2 (kids.take i) i) (fun i => kids.length - i) ?_ (a := 0) ⟨Nat.zero_le _, _, hR, rfl⟩
  rintro i env S' ⟨hi, o2, hR, rfl⟩
  (try refine And.intro (by rfl) ?_); (conv => whnf); repeat (first | (refine sI (by rfl) ?_; conv => whnf) | (refine sD (by rfl) (by rfl) ?_; conv => whnf) | (generalize hE : keepE _ _ = e0; revert hE; apply kI; (repeat (first | exact kN _ | (apply kC; with_unfolding_all rfl; rfl))); rintro rfl; (conv => whnf); conv => whnf))
  by_cases h : (i : Int) < (encTs kids).length
  · rw [decide_eq_true h]
    (try refine And.intro (by rfl) ?_); (conv => whnf); repeat (first | (refine sI (by rfl) ?_; conv => whnf) | (refine sD (by rfl) (by rfl) ?_; conv => whnf) | (generalize hE : keepE _ _ = e0; revert hE; apply kI; (repeat (first | exact kN _ | (apply kC; with_unfolding_all rfl; rfl))); rintro rfl; (conv => whnf); conv => whnf))
    have hik : i < kids.length := by omega
    refine step_ruleDO rfl rfl (sx_ia (k := i) rfl rfl (by omega)) ?_
    (try refine And.intro (by rfl) ?_); (conv => whnf); repeat (first | (refine sI (by rfl) ?_; conv => whnf) | (refine sD (by rfl) (by rfl) ?_; conv => whnf) | (generalize hE : keepE _ _ = e0; revert hE; apply kI; (repeat (first | exact kN _ | (apply kC; with_unfolding_all rfl; rfl))); rintro rfl; (conv => whnf); conv => whnf))
    refine step_ruleDO rfl rfl (sx_ldEl (agg := true) rfl rfl (encTs_get hik) (rdT _)) ?_
    (try refine And.intro (by rfl) ?_); (conv => whnf); repeat (first | (refine sI (by rfl) ?_; conv => whnf) | (refine sD (by rfl) (by rfl) ?_; conv => whnf) | (generalize hE : keepE _ _ = e0; revert hE; apply kI; (repeat (first | exact kN _ | (apply kC; with_unfolding_all rfl; rfl))); rintro rfl; (conv => whnf); conv => whnf))
    have ihk := ih _ (PT.oks_get hk3 (List.getElem?_eq_getElem hik))
    have hok := encT_ok kids[i]
    have hts : encTs (kids.take (i + 1)) = encTs (kids.take i) ++ [encT kids[i]] := by rw [List.take_succ_eq_append_getElem hik, encTs_app]; rfl
    obtain ⟨ka, sa, xa, ya, he⟩ := encT_agg kids[i]
    rw [he] at ihk hts hok ⊢
    refine call_pfD hm (by rfl) ihk ?_
    (try refine And.intro (by rfl) ?_); (conv => whnf); repeat (first | (refine sI (by rfl) ?_; conv => whnf) | (refine sD (by rfl) (by rfl) ?_; conv => whnf) | (generalize hE : keepE _ _ = e0; revert hE; apply kI; (repeat (first | exact kN _ | (apply kC; with_unfolding_all rfl; rfl))); rintro rfl; (conv => whnf); conv => whnf))
    have hlt : (encTs (kids.take i)).length = i := by rw [encTs_len, List.length_take]; omega
    refine r_appD hR 1 rfl (by trivial) rfl rfl rfl (by rw [hlt]; simp; omega) (by rw [hlt]; simp; omega) (by decide) (by decide) hok ?_
    intro o3 S3 hR
    (try refine And.intro (by rfl) ?_); (conv => whnf); repeat (first | (refine sI (by rfl) ?_; conv => whnf) | (refine sD (by rfl) (by rfl) ?_; conv => whnf) | (generalize hE : keepE _ _ = e0; revert hE; apply kI; (repeat (first | exact kN _ | (apply kC; with_unfolding_all rfl; rfl))); rintro rfl; (conv => whnf); conv => whnf))
    refine ⟨i + 1, ⟨by omega, o3, by rw [hts]; exact hR, ?_⟩, by omega⟩
    rw [wrNat (by omega)]
    simp only [E_copy3, hts]
    try rfl
  · rw [decide_eq_false h]
    (try refine And.intro (by rfl) ?_); (conv => whnf); repeat (first | (refine sI (by rfl) ?_; conv => whnf) | (refine sD (by rfl) (by rfl) ?_; conv => whnf) | (generalize hE : keepE _ _ = e0; revert hE; apply kI; (repeat (first | exact kN _ | (apply kC; with_unfolding_all rfl; rfl))); rintro rfl; (conv => whnf); conv => whnf))
    have : kids.take i = kids := List.take_of_length_le (by omega)
    rw [this] at hR ⊢
    exact ⟨_, rfl, o1, o2, rfl, hR⟩
end
end Go.Dn

namespace Go.Dn
open Go Go.Proofs.C1
set_option maxRecDepth 100000
attribute [local irreducible] afterS keepE

/-- where a key stands; -1: nowhere -/
def plc (key : List UInt8) : List (List UInt8) → Nat → Int
  | [], _ => -1
  | a :: r, i => if a = key then (i : Int) else plc key r (i + 1)

theorem plc_lt (key : List UInt8) : ∀ (l : List (List UInt8)) (i : Nat), plc key l i = -1 ∨ ((i : Int) ≤ plc key l i ∧ plc key l i < i + l.length)
  | [], i => .inl rfl
  | n :: r, i => by
    simp only [plc]
    split
    · right; simp only [List.length_cons]; omega
    · rcases plc_lt key r (i + 1) with h | h
      · exact .inl h
      · right; simp only [List.length_cons]; omega

theorem plc_step {key : List UInt8} {l : List (List UInt8)} {i : Nat} (h : i < l.length) : plc key (l.drop i) i = if l[i] = key then (i : Int) else plc key (l.drop (i + 1)) (i + 1) := by
  rw [List.drop_eq_getElem_cons h]; try rfl

/-- the place of the part to which a step leads; -1: none -/
def atT (t : PT) (s : PS) : Int :=
  if t.k = 6 then (if s.key = [] ∧ 0 ≤ s.num ∧ s.num < t.kids.length then s.num else -1)
  else if t.k = 7 ∧ s.num = 0 ∧ plc s.key t.keys 0 < t.kids.length then plc s.key t.keys 0 else -1

theorem atT_mk {k : Int} {s : List UInt8} {keys : List (List UInt8)} {kids : List PT} {key : List UInt8} {num : Int} :
    atT (.mk k s keys kids) ⟨key, num⟩ = if k = 6 then (if key = [] ∧ 0 ≤ num ∧ num < kids.length then num else -1) else if k = 7 ∧ num = 0 ∧ plc key keys 0 < kids.length then plc key keys 0 else -1 := rfl

theorem atT_lt (t : PT) (s : PS) : atT t s = -1 ∨ (0 ≤ atT t s ∧ atT t s < t.kids.length) := by
  unfold atT
  split
  · split
    · right; omega
    · exact .inl rfl
  · split
    · rename_i h
      rcases plc_lt s.key t.keys 0 with h' | h'
      · exact .inl h'
      · right; omega
    · exact .inl rfl

def getT : PT → List PS → Option PT
  | t, [] => some t
  | t, s :: r => if atT t s < 0 then none else match t.kids[(atT t s).toNat]? with
    | none => none
    | some k => getT k r

def setT (w : PT) : PT → List PS → Option PT
  | _, [] => some w
  | t, s :: r => if atT t s < 0 then none else match t.kids[(atT t s).toNat]? with
    | none => none
    | some k => match setT w k r with
      | none => none
      | some x => some (.mk t.k t.s t.keys (t.kids.set (atT t s).toNat x))

def PT.zero : PT := .mk 0 [] [] []
def encGet : Option PT → AV
  | some t => .tup [encT t, .bool true]
  | none => .tup [encT PT.zero, .bool false]
def encSet : Option PT → AV
  | some t => .tup [encT t, .int .i64 0]
  | none => .tup [encT PT.zero, .int .i64 1]

theorem rdo_nil0 {S : St} {es : Nat} {nl : Bool} : Rdo S (.sl es stat []) (.sl es ⟨none, 0, some 0, nl⟩ []) := by
  simp only [Rdo]
  exact ⟨trivial, _, _, true, [], rfl, rfl, by simp only [Rdos]⟩
theorem rdo_zT {S : St} : Rdo S (encT PT.zero) (.agg zT) := by
  simp only [PT.zero, encT]
  rw [Rdo]
  refine ⟨_, rfl, ?_⟩
  simp only [Rdos]
  exact ⟨_, _, rfl, by simp only [Rdo], _, _, rfl, by simp only [Rdo], _, _, rfl, rdo_nil0, _, _, rfl, rdo_nil0, rfl⟩
theorem ret_tup2 {S : St} {u x : AV} {b : AV} (h : Rdo S u x) (hb : Sta b) : Ret (.tup [u, b]) (.ret (.tup [x, b])) S := by
  refine ⟨_, rfl, ?_⟩
  rw [Rdo]
  refine ⟨_, rfl, ?_⟩
  simp only [Rdos]
  exact ⟨_, _, rfl, h, _, _, rfl, hb.rdo, rfl⟩

theorem PT.oks_set : ∀ {l : List PT} {i : Nat} {x : PT}, PT.oks l → x.ok → PT.oks (l.set i x)
  | [], _, _, h, _ => h
  | a :: r, 0, x, h, hx => by simp only [PT.oks] at h; simp only [List.set_cons_zero, PT.oks]; exact ⟨hx, h.2⟩
  | a :: r, i + 1, x, h, hx => by simp only [PT.oks] at h; simp only [List.set_cons_succ, PT.oks]; exact ⟨h.1, PT.oks_set h.2 hx⟩

theorem getT_ok : ∀ {p : List PS} {t x : PT}, t.ok → getT t p = some x → x.ok
  | [], t, x, h, e => by simp only [getT, Option.some.injEq] at e; rw [← e]; exact h
  | s :: r, t, x, h, e => by
    simp only [getT] at e
    split at e
    · cases e
    · split at e
      · cases e
      · rename_i k hk
        obtain ⟨a, b, c, d⟩ := t
        simp only [PT.ok] at h
        exact getT_ok (PT.oks_get h.2.2 hk) e

theorem setT_ok : ∀ {p : List PS} {w t x : PT}, w.ok → t.ok → setT w t p = some x → x.ok
  | [], w, t, x, hw, h, e => by simp only [setT, Option.some.injEq] at e; rw [← e]; exact hw
  | s :: r, w, t, x, hw, h, e => by
    simp only [setT] at e
    split at e
    · cases e
    · split at e
      · cases e
      · rename_i k hk
        split at e
        · cases e
        · rename_i y hy
          obtain ⟨a, b, c, d⟩ := t
          simp only [PT.ok] at h
          have hk' := setT_ok hw (PT.oks_get h.2.2 hk) hy
          simp only [Option.some.injEq] at e
          rw [← e]
          simp only [PT.k, PT.s, PT.keys, PT.kids, PT.ok, List.length_set]
          exact ⟨h.1, h.2.1, PT.oks_set h.2.2 hk'⟩

theorem sx_slLoA {gt : GT} {d : Option Nat} {es : Nat} {x lo : DOpd} {env : Env} {S : St} {xs : List AV} {l : Nat} (hx : opd env x = some (.sl es stat xs)) (hh : (opd env lo).bind nat? = some l) (hl : l ≤ xs.length) :
    stepO gt d env S (.slA es x (some lo) none none) = .done (putV d (.sl es ⟨none, l, none, false⟩ (xs.drop l)) env) S := by
  have hb : bnds env xs.length (some lo) none = some (l, xs.length) := by
    simp only [bnds, hh, ble_true hl, ble_true (Nat.le_refl xs.length), Bool.and_self, cond_true]
  simp only [stepO, hx, Nat.beq_refl, cond_true, hb, stat, Nat.zero_add]
  rw [List.take_of_length_le (by rw [List.length_drop]; omega)]
  try rfl

section
variable {gt : GT} {C : CallT}

abbrev E_idx (keys : List (List UInt8)) (key : List UInt8) (i : Int) : Env := [(0, .val (.sl 1 stat (strs keys))), (1, .val (.str key)), (7, .val (.int .i64 (strs keys).length)), (8, .val (.int .i64 i))]

set_option maxHeartbeats 2000000 in
theorem index_wp (hm : MonoC C) {keys : List (List UInt8)} {key : List UInt8} (hl : keys.length < 4611686018427387904) : wpF gt C F99 [.sl 1 stat (strs keys), .str key] St.init (Ret (.int .i64 (plc key keys 0))) := by
  have l1 := strs_length keys
  refine ⟨rfl, ?_⟩
  (try refine And.intro (by rfl) ?_); (conv => whnf); repeat (first | (refine sI (by rfl) ?_; conv => whnf) | (refine sD (by rfl) (by rfl) ?_; conv => whnf) | (generalize hE : keepE _ _ = e0; revert hE; apply kI; (repeat (first | exact kN _ | (apply kC; with_unfolding_all rfl; rfl))); rintro rfl; (conv => whnf); conv => whnf))
  refine loop_rule hm (α := Nat) (fun i env S' => i ≤ keys.length ∧ env = E_idx keys key i ∧ S' = St.init ∧ plc key keys 0 = plc key (keys.drop i) i) (fun i => keys.length - i) ?_ (a := 0) ⟨Nat.zero_le _, rfl, rfl, rfl⟩
  rintro i env S' ⟨hi, rfl, rfl, hp⟩
  (try refine And.intro (by rfl) ?_); (conv => whnf); repeat (first | (refine sI (by rfl) ?_; conv => whnf) | (refine sD (by rfl) (by rfl) ?_; conv => whnf) | (generalize hE : keepE _ _ = e0; revert hE; apply kI; (repeat (first | exact kN _ | (apply kC; with_unfolding_all rfl; rfl))); rintro rfl; (conv => whnf); conv => whnf))
  by_cases hc : (i : Int) < (strs keys).length
  · rw [decide_eq_true hc]
    (try refine And.intro (by rfl) ?_); (conv => whnf); repeat (first | (refine sI (by rfl) ?_; conv => whnf) | (refine sD (by rfl) (by rfl) ?_; conv => whnf) | (generalize hE : keepE _ _ = e0; revert hE; apply kI; (repeat (first | exact kN _ | (apply kC; with_unfolding_all rfl; rfl))); rintro rfl; (conv => whnf); conv => whnf))
    have hik : i < keys.length := by omega
    rw [plc_step hik] at hp
    refine step_ruleO (sx_ia (k := i) rfl rfl (by omega)) ?_
    (try refine And.intro (by rfl) ?_); (conv => whnf); repeat (first | (refine sI (by rfl) ?_; conv => whnf) | (refine sD (by rfl) (by rfl) ?_; conv => whnf) | (generalize hE : keepE _ _ = e0; revert hE; apply kI; (repeat (first | exact kN _ | (apply kC; with_unfolding_all rfl; rfl))); rintro rfl; (conv => whnf); conv => whnf))
    refine step_ruleO (sx_ldEl (agg := false) rfl rfl (strs_at hik) rfl) ?_
    (try refine And.intro (by rfl) ?_); (conv => whnf); repeat (first | (refine sI (by rfl) ?_; conv => whnf) | (refine sD (by rfl) (by rfl) ?_; conv => whnf) | (generalize hE : keepE _ _ = e0; revert hE; apply kI; (repeat (first | exact kN _ | (apply kC; with_unfolding_all rfl; rfl))); rintro rfl; (conv => whnf); conv => whnf))
    by_cases z : key = keys[i]
    · rw [beqB_true z]
      (try refine And.intro (by rfl) ?_); (conv => whnf); repeat (first | (refine sI (by rfl) ?_; conv => whnf) | (refine sD (by rfl) (by rfl) ?_; conv => whnf) | (generalize hE : keepE _ _ = e0; revert hE; apply kI; (repeat (first | exact kN _ | (apply kC; with_unfolding_all rfl; rfl))); rintro rfl; (conv => whnf); conv => whnf))
      refine ⟨_, rfl, ?_⟩
      rw [hp, if_pos z.symm]
      exact Ret.sta trivial
    · rw [beqB_false z]
      (try refine And.intro (by rfl) ?_); (conv => whnf); repeat (first | (refine sI (by rfl) ?_; conv => whnf) | (refine sD (by rfl) (by rfl) ?_; conv => whnf) | (generalize hE : keepE _ _ = e0; revert hE; apply kI; (repeat (first | exact kN _ | (apply kC; with_unfolding_all rfl; rfl))); rintro rfl; (conv => whnf); conv => whnf))
      refine ⟨i + 1, ⟨by omega, ?_, rfl, by rw [hp, if_neg fun e => z e.symm]⟩, by omega⟩
      rw [wrNat (by omega)]; try rfl
  · rw [decide_eq_false hc]
    (try refine And.intro (by rfl) ?_); (conv => whnf); repeat (first | (refine sI (by rfl) ?_; conv => whnf) | (refine sD (by rfl) (by rfl) ?_; conv => whnf) | (generalize hE : keepE _ _ = e0; revert hE; apply kI; (repeat (first | exact kN _ | (apply kC; with_unfolding_all rfl; rfl))); rintro rfl; (conv => whnf); conv => whnf))
    refine ⟨_, rfl, ?_⟩
    rw [hp, List.drop_eq_nil_of_le (by omega)]
    exact Ret.sta trivial

set_option maxHeartbeats 4000000 in
theorem part_wp (hm : MonoC C) (hi : ∀ (keys : List (List UInt8)) (key : List UInt8), keys.length < 4611686018427387904 → PF C 99 [.sl 1 stat (strs keys), .str key] (.int .i64 (plc key keys 0)))
    {t : PT} {s : PS} (hk : t.ok) : wpF gt C F56 [encT t, encS s] St.init (Ret (.int .i64 (atT t s))) := by
  obtain ⟨k, tx, keys, kids⟩ := t
  obtain ⟨key, num⟩ := s
  simp only [PT.ok] at hk
  obtain ⟨q1, q2, q3⟩ := hk
  have hi := hi keys key (by omega)
  have l1 := encTs_len kids
  have ret : ∀ {z : Int} {S : St}, atT (.mk k tx keys kids) ⟨key, num⟩ = z → Ret (.int .i64 (atT (.mk k tx keys kids) ⟨key, num⟩)) (.ret (.int .i64 z)) S := fun h => by rw [h]; exact Ret.sta trivial
  have hf := @atT_mk k tx keys kids key num
  generalize atT (.mk k tx keys kids) ⟨key, num⟩ = res at ret hf ⊢
  refine ⟨rfl, ?_⟩
  (try refine And.intro (by rfl) ?_); (conv => whnf); repeat (first | (refine sI (by rfl) ?_; conv => whnf) | (refine sD (by rfl) (by rfl) ?_; conv => whnf) | (generalize hE : keepE _ _ = e0; revert hE; apply kI; (repeat (first | exact kN _ | (apply kC; with_unfolding_all rfl; rfl))); rintro rfl; (conv => whnf); conv => whnf))
  by_cases k6 : k = 6
  · rw [eqI_true k6]
    rw [if_pos k6] at hf
    (try refine And.intro (by rfl) ?_); (conv => whnf); repeat (first | (refine sI (by rfl) ?_; conv => whnf) | (refine sD (by rfl) (by rfl) ?_; conv => whnf) | (generalize hE : keepE _ _ = e0; revert hE; apply kI; (repeat (first | exact kN _ | (apply kC; with_unfolding_all rfl; rfl))); rintro rfl; (conv => whnf); conv => whnf))
    by_cases z1 : key = []
    case neg =>
      rw [beqB_false z1]
      (try refine And.intro (by rfl) ?_); (conv => whnf); repeat (first | (refine sI (by rfl) ?_; conv => whnf) | (refine sD (by rfl) (by rfl) ?_; conv => whnf) | (generalize hE : keepE _ _ = e0; revert hE; apply kI; (repeat (first | exact kN _ | (apply kC; with_unfolding_all rfl; rfl))); rintro rfl; (conv => whnf); conv => whnf))
      exact ⟨_, rfl, ret (by rw [hf, if_neg fun h => z1 h.1])⟩
    rw [beqB_true z1]
    (try refine And.intro (by rfl) ?_); (conv => whnf); repeat (first | (refine sI (by rfl) ?_; conv => whnf) | (refine sD (by rfl) (by rfl) ?_; conv => whnf) | (generalize hE : keepE _ _ = e0; revert hE; apply kI; (repeat (first | exact kN _ | (apply kC; with_unfolding_all rfl; rfl))); rintro rfl; (conv => whnf); conv => whnf))
    by_cases z2 : num ≥ 0
    case neg =>
      rw [decide_eq_false z2]
      (try refine And.intro (by rfl) ?_); (conv => whnf); repeat (first | (refine sI (by rfl) ?_; conv => whnf) | (refine sD (by rfl) (by rfl) ?_; conv => whnf) | (generalize hE : keepE _ _ = e0; revert hE; apply kI; (repeat (first | exact kN _ | (apply kC; with_unfolding_all rfl; rfl))); rintro rfl; (conv => whnf); conv => whnf))
      exact ⟨_, rfl, ret (by rw [hf, if_neg fun h => z2 h.2.1])⟩
    rw [decide_eq_true z2]
    (try refine And.intro (by rfl) ?_); (conv => whnf); repeat (first | (refine sI (by rfl) ?_; conv => whnf) | (refine sD (by rfl) (by rfl) ?_; conv => whnf) | (generalize hE : keepE _ _ = e0; revert hE; apply kI; (repeat (first | exact kN _ | (apply kC; with_unfolding_all rfl; rfl))); rintro rfl; (conv => whnf); conv => whnf))
    by_cases z3 : num < (encTs kids).length
    · rw [decide_eq_true z3]
      (try refine And.intro (by rfl) ?_); (conv => whnf); repeat (first | (refine sI (by rfl) ?_; conv => whnf) | (refine sD (by rfl) (by rfl) ?_; conv => whnf) | (generalize hE : keepE _ _ = e0; revert hE; apply kI; (repeat (first | exact kN _ | (apply kC; with_unfolding_all rfl; rfl))); rintro rfl; (conv => whnf); conv => whnf))
      exact ⟨_, rfl, ret (by rw [hf, if_pos ⟨z1, z2, by omega⟩])⟩
    · rw [decide_eq_false z3]
      (try refine And.intro (by rfl) ?_); (conv => whnf); repeat (first | (refine sI (by rfl) ?_; conv => whnf) | (refine sD (by rfl) (by rfl) ?_; conv => whnf) | (generalize hE : keepE _ _ = e0; revert hE; apply kI; (repeat (first | exact kN _ | (apply kC; with_unfolding_all rfl; rfl))); rintro rfl; (conv => whnf); conv => whnf))
      exact ⟨_, rfl, ret (by rw [hf, if_neg fun h => z3 (by omega)])⟩
  rw [eqI_false k6]
  rw [if_neg k6] at hf
  (try refine And.intro (by rfl) ?_); (conv => whnf); repeat (first | (refine sI (by rfl) ?_; conv => whnf) | (refine sD (by rfl) (by rfl) ?_; conv => whnf) | (generalize hE : keepE _ _ = e0; revert hE; apply kI; (repeat (first | exact kN _ | (apply kC; with_unfolding_all rfl; rfl))); rintro rfl; (conv => whnf); conv => whnf))
  by_cases k7 : k = 7
  case neg =>
    rw [eqI_false k7]
    (try refine And.intro (by rfl) ?_); (conv => whnf); repeat (first | (refine sI (by rfl) ?_; conv => whnf) | (refine sD (by rfl) (by rfl) ?_; conv => whnf) | (generalize hE : keepE _ _ = e0; revert hE; apply kI; (repeat (first | exact kN _ | (apply kC; with_unfolding_all rfl; rfl))); rintro rfl; (conv => whnf); conv => whnf))
    exact ⟨_, rfl, ret (by rw [hf, if_neg fun h => k7 h.1])⟩
  rw [eqI_true k7]
  (try refine And.intro (by rfl) ?_); (conv => whnf); repeat (first | (refine sI (by rfl) ?_; conv => whnf) | (refine sD (by rfl) (by rfl) ?_; conv => whnf) | (generalize hE : keepE _ _ = e0; revert hE; apply kI; (repeat (first | exact kN _ | (apply kC; with_unfolding_all rfl; rfl))); rintro rfl; (conv => whnf); conv => whnf))
  refine call_pf hm (by rfl) hi ?_
  (try refine And.intro (by rfl) ?_); (conv => whnf); repeat (first | (refine sI (by rfl) ?_; conv => whnf) | (refine sD (by rfl) (by rfl) ?_; conv => whnf) | (generalize hE : keepE _ _ = e0; revert hE; apply kI; (repeat (first | exact kN _ | (apply kC; with_unfolding_all rfl; rfl))); rintro rfl; (conv => whnf); conv => whnf))
  refine step_ruleO (st_eqS rfl rfl) ?_
  rw [beqB_true (rfl : key = key), Bool.true_and]
  (try refine And.intro (by rfl) ?_); (conv => whnf); repeat (first | (refine sI (by rfl) ?_; conv => whnf) | (refine sD (by rfl) (by rfl) ?_; conv => whnf) | (generalize hE : keepE _ _ = e0; revert hE; apply kI; (repeat (first | exact kN _ | (apply kC; with_unfolding_all rfl; rfl))); rintro rfl; (conv => whnf); conv => whnf))
  by_cases z2 : num = 0
  case neg =>
    rw [eqI_false z2]
    (try refine And.intro (by rfl) ?_); (conv => whnf); repeat (first | (refine sI (by rfl) ?_; conv => whnf) | (refine sD (by rfl) (by rfl) ?_; conv => whnf) | (generalize hE : keepE _ _ = e0; revert hE; apply kI; (repeat (first | exact kN _ | (apply kC; with_unfolding_all rfl; rfl))); rintro rfl; (conv => whnf); conv => whnf))
    exact ⟨_, rfl, ret (by rw [hf, if_neg fun h => z2 h.2.1])⟩
  rw [eqI_true z2]
  (try refine And.intro (by rfl) ?_); (conv => whnf); repeat (first | (refine sI (by rfl) ?_; conv => whnf) | (refine sD (by rfl) (by rfl) ?_; conv => whnf) | (generalize hE : keepE _ _ = e0; revert hE; apply kI; (repeat (first | exact kN _ | (apply kC; with_unfolding_all rfl; rfl))); rintro rfl; (conv => whnf); conv => whnf))
  by_cases z3 : plc key keys 0 < (encTs kids).length
  · rw [decide_eq_true z3]
    (try refine And.intro (by rfl) ?_); (conv => whnf); repeat (first | (refine sI (by rfl) ?_; conv => whnf) | (refine sD (by rfl) (by rfl) ?_; conv => whnf) | (generalize hE : keepE _ _ = e0; revert hE; apply kI; (repeat (first | exact kN _ | (apply kC; with_unfolding_all rfl; rfl))); rintro rfl; (conv => whnf); conv => whnf))
    exact ⟨_, rfl, ret (by rw [hf, if_pos ⟨k7, z2, by omega⟩])⟩
  · rw [decide_eq_false z3]
    (try refine And.intro (by rfl) ?_); (conv => whnf); repeat (first | (refine sI (by rfl) ?_; conv => whnf) | (refine sD (by rfl) (by rfl) ?_; conv => whnf) | (generalize hE : keepE _ _ = e0; revert hE; apply kI; (repeat (first | exact kN _ | (apply kC; with_unfolding_all rfl; rfl))); rintro rfl; (conv => whnf); conv => whnf))
    exact ⟨_, rfl, ret (by rw [hf, if_neg fun h => z3 (by omega)])⟩

abbrev E_get (cur : PT) (path : List PS) (i : Int) : Env := [(2, .box (encT cur).cells), (4, .box zT), (9, .val (.sl 2 stat (encSs path))), (10, .val (.int .i64 (encSs path).length)), (11, .val (.int .i64 i))]

set_option maxHeartbeats 4000000 in
theorem get_wp (hm : MonoC C) (hpart : ∀ t s, t.ok → PF C 56 [encT t, encS s] (.int .i64 (atT t s))) (hcopy : ∀ t : PT, t.ok → PF C 31 [encT t] (encT t))
    {t : PT} {path : List PS} (hk : t.ok) (hp : path.length ≤ 4611686018427387904) : wpF gt C F21 [encT t, .sl 2 stat (encSs path)] St.init (Ret (encGet (getT t path))) := by
  have hlp := encSs_len path
  have hn := encT_agg t
  refine ⟨rfl, ?_⟩
  (try refine And.intro (by rfl) ?_); (conv => whnf); repeat (first | (refine sI (by rfl) ?_; conv => whnf) | (refine sD (by rfl) (by rfl) ?_; conv => whnf) | (generalize hE : keepE _ _ = e0; revert hE; apply kI; (repeat (first | exact kN _ | (apply kC; with_unfolding_all rfl; rfl))); rintro rfl; (conv => whnf); conv => whnf))
  refine loop_rule hm (α := Nat × PT) (fun a env S' => a.1 ≤ path.length ∧ env = E_get a.2 path a.1 ∧ S' = St.init ∧ a.2.ok ∧ getT t path = getT a.2 (path.drop a.1)) (fun a => path.length - a.1) ?_ (a := (0, t)) ⟨Nat.zero_le _, ?_, rfl, hk, rfl⟩
  case refine_2 => obtain ⟨w0, w1, w2, w3, he⟩ := hn; simp only [E_get, he]; try rfl
  clear hn hk
  rintro ⟨i, cur⟩ env S' ⟨hi, rfl, rfl, hk, hf⟩
  simp only at hi hk hf
  obtain ⟨k, s, keys, kids⟩ := cur
  (try refine And.intro (by rfl) ?_); (conv => whnf); repeat (first | (refine sI (by rfl) ?_; conv => whnf) | (refine sD (by rfl) (by rfl) ?_; conv => whnf) | (generalize hE : keepE _ _ = e0; revert hE; apply kI; (repeat (first | exact kN _ | (apply kC; with_unfolding_all rfl; rfl))); rintro rfl; (conv => whnf); conv => whnf))
  by_cases hc : (i : Int) < (encSs path).length
  · rw [decide_eq_true hc]
    (try refine And.intro (by rfl) ?_); (conv => whnf); repeat (first | (refine sI (by rfl) ?_; conv => whnf) | (refine sD (by rfl) (by rfl) ?_; conv => whnf) | (generalize hE : keepE _ _ = e0; revert hE; apply kI; (repeat (first | exact kN _ | (apply kC; with_unfolding_all rfl; rfl))); rintro rfl; (conv => whnf); conv => whnf))
    have hik : i < path.length := by omega
    rw [List.drop_eq_getElem_cons hik] at hf
    have hpart := hpart (.mk k s keys kids) path[i] hk
    have hge := encSs_get hik
    have hlt := atT_lt (.mk k s keys kids) path[i]
    generalize path[i] = ps at hf hpart hge hlt
    obtain ⟨key, num⟩ := ps
    simp only [getT, PT.kids] at hf hlt
    generalize atT (.mk k s keys kids) ⟨key, num⟩ = ki at hpart hf hlt
    refine step_ruleO (sx_ia (k := i) rfl rfl (by omega)) ?_
    (try refine And.intro (by rfl) ?_); (conv => whnf); repeat (first | (refine sI (by rfl) ?_; conv => whnf) | (refine sD (by rfl) (by rfl) ?_; conv => whnf) | (generalize hE : keepE _ _ = e0; revert hE; apply kI; (repeat (first | exact kN _ | (apply kC; with_unfolding_all rfl; rfl))); rintro rfl; (conv => whnf); conv => whnf))
    refine step_ruleO (sx_ldEl (agg := true) rfl rfl hge (rdS _)) ?_
    (try refine And.intro (by rfl) ?_); (conv => whnf); repeat (first | (refine sI (by rfl) ?_; conv => whnf) | (refine sD (by rfl) (by rfl) ?_; conv => whnf) | (generalize hE : keepE _ _ = e0; revert hE; apply kI; (repeat (first | exact kN _ | (apply kC; with_unfolding_all rfl; rfl))); rintro rfl; (conv => whnf); conv => whnf))
    refine call_pf hm (by rfl) hpart ?_
    (try refine And.intro (by rfl) ?_); (conv => whnf); repeat (first | (refine sI (by rfl) ?_; conv => whnf) | (refine sD (by rfl) (by rfl) ?_; conv => whnf) | (generalize hE : keepE _ _ = e0; revert hE; apply kI; (repeat (first | exact kN _ | (apply kC; with_unfolding_all rfl; rfl))); rintro rfl; (conv => whnf); conv => whnf))
    by_cases hneg : ki < 0
    · rw [decide_eq_true hneg]
      (try refine And.intro (by rfl) ?_); (conv => whnf); repeat (first | (refine sI (by rfl) ?_; conv => whnf) | (refine sD (by rfl) (by rfl) ?_; conv => whnf) | (generalize hE : keepE _ _ = e0; revert hE; apply kI; (repeat (first | exact kN _ | (apply kC; with_unfolding_all rfl; rfl))); rintro rfl; (conv => whnf); conv => whnf))
      rw [if_pos hneg] at hf
      rw [hf]
      exact ⟨_, rfl, ret_tup2 rdo_zT trivial⟩
    rw [decide_eq_false hneg]
    rw [if_neg hneg] at hf
    obtain ⟨m, rfl⟩ : ∃ m : Nat, ki = m := ⟨ki.toNat, by omega⟩
    have hmk : m < kids.length := by omega
    simp only [Int.toNat_natCast, List.getElem?_eq_getElem hmk] at hf
    simp only [PT.ok] at hk
    obtain ⟨q1, q2, q3⟩ := hk
    have hlk := encTs_len kids
    have hok := PT.oks_get q3 (List.getElem?_eq_getElem hmk)
    (try refine And.intro (by rfl) ?_); (conv => whnf); repeat (first | (refine sI (by rfl) ?_; conv => whnf) | (refine sD (by rfl) (by rfl) ?_; conv => whnf) | (generalize hE : keepE _ _ = e0; revert hE; apply kI; (repeat (first | exact kN _ | (apply kC; with_unfolding_all rfl; rfl))); rintro rfl; (conv => whnf); conv => whnf))
    refine step_ruleO (sx_ia (k := m) rfl rfl (by omega)) ?_
    (try refine And.intro (by rfl) ?_); (conv => whnf); repeat (first | (refine sI (by rfl) ?_; conv => whnf) | (refine sD (by rfl) (by rfl) ?_; conv => whnf) | (generalize hE : keepE _ _ = e0; revert hE; apply kI; (repeat (first | exact kN _ | (apply kC; with_unfolding_all rfl; rfl))); rintro rfl; (conv => whnf); conv => whnf))
    refine step_ruleO (sx_ldEl (agg := true) rfl rfl (encTs_get hmk) (rdT _)) ?_
    obtain ⟨w0, w1, w2, w3, he⟩ := encT_agg kids[m]
    rw [he]
    (try refine And.intro (by rfl) ?_); (conv => whnf); repeat (first | (refine sI (by rfl) ?_; conv => whnf) | (refine sD (by rfl) (by rfl) ?_; conv => whnf) | (generalize hE : keepE _ _ = e0; revert hE; apply kI; (repeat (first | exact kN _ | (apply kC; with_unfolding_all rfl; rfl))); rintro rfl; (conv => whnf); conv => whnf))
    refine ⟨(i + 1, kids[m]), ⟨by simp only; omega, ?_, rfl, hok, hf⟩, by simp only; omega⟩
    simp only [E_get, he]
    rw [wrNat (by omega)]; try rfl
  · rw [decide_eq_false hc]
    have hcopy := hcopy (.mk k s keys kids) hk
    rw [hf, List.drop_eq_nil_of_le (by omega)]
    (try refine And.intro (by rfl) ?_); (conv => whnf); repeat (first | (refine sI (by rfl) ?_; conv => whnf) | (refine sD (by rfl) (by rfl) ?_; conv => whnf) | (generalize hE : keepE _ _ = e0; revert hE; apply kI; (repeat (first | exact kN _ | (apply kC; with_unfolding_all rfl; rfl))); rintro rfl; (conv => whnf); conv => whnf))
    refine call_pf hm (by rfl) hcopy ?_
    (try refine And.intro (by rfl) ?_); (conv => whnf); repeat (first | (refine sI (by rfl) ?_; conv => whnf) | (refine sD (by rfl) (by rfl) ?_; conv => whnf) | (generalize hE : keepE _ _ = e0; revert hE; apply kI; (repeat (first | exact kN _ | (apply kC; with_unfolding_all rfl; rfl))); rintro rfl; (conv => whnf); conv => whnf))
    exact ⟨_, rfl, Ret.sta ⟨sta_T (.mk k s keys kids), trivial, trivial⟩⟩
end
end Go.Dn

namespace Go.Dn
open Go Go.RowKit

theorem hs_bldT {gt : GT} {d : Option Nat} {env : Env} {S : St} {R : List Rs} {ty : TypeId} {es n : Nat} {z : AV} {ps : List (Nat × DOpd)} {xs : List AV} (h : Hs S R) (hf : fillE es (List.replicate n z) env ps = some xs) :
    ∃ o S', stepO gt d env S (.bldT ty es n z ps) = .done (putV d (.sl es o xs) env) S' ∧ Hs S' R ∧ ∀ agg, srcE S' agg es (.sl es o xs) = some xs := by
  have hw := h.wf S.nt (Nat.le_refl _)
  refine ⟨⟨some (S.nt, S.nt), 0, some n, false⟩, { S with nt := S.nt + 1, tip := (S.nt, some (n, ty, false)) :: S.tip }, by simp only [stepO, hf], ?_, fun agg => ?_⟩
  · have := h.more (S' := { S with nt := S.nt + 1, tip := (S.nt, some (n, ty, false)) :: S.tip }) (r' := .gr ty ⟨none, 0, some 0, true⟩ []) (fun t ht => h.wf t (by simp only at ht; omega)) ⟨Nat.le_succ _, Nat.le_refl _, Nat.le_refl _, fun t ht _ => ⟨lk_ne _ _ (by omega), rfl⟩, fun _ _ _ => rfl, fun _ _ _ h => h, fun _ _ _ => rfl, fun _ _ _ => rfl⟩ (.inl ⟨rfl, rfl, rfl, rfl⟩) fun j s _ => by
      cases s <;> simp [RsDj]
    exact this.less id (fun i j _ _ e => e) fun i hi => by rw [id, List.getElem?_append_left hi]
  · simp only [srcE, Nat.beq_refl, cond_true, elems, rd, hw.1, hw.2]

/-- the store behind it -/
theorem Hs.bldT {S : St} {R : List Rs} (h : Hs S R) (ty : TypeId) (n : Nat) : Hs { S with nt := S.nt + 1, tip := (S.nt, some (n, ty, false)) :: S.tip } R ∧
    ∀ (agg : Bool) (es : Nat) (xs : List AV), srcE { S with nt := S.nt + 1, tip := (S.nt, some (n, ty, false)) :: S.tip } agg es (.sl es ⟨some (S.nt, S.nt), 0, some n, false⟩ xs) = some xs := by
  have hw := h.wf S.nt (Nat.le_refl _)
  refine ⟨?_, fun agg es xs => ?_⟩
  · have := h.more (S' := { S with nt := S.nt + 1, tip := (S.nt, some (n, ty, false)) :: S.tip }) (r' := .gr ty ⟨none, 0, some 0, true⟩ []) (fun t ht => h.wf t (by simp only at ht; omega)) ⟨Nat.le_succ _, Nat.le_refl _, Nat.le_refl _, fun t ht _ => ⟨lk_ne _ _ (by omega), rfl⟩, fun _ _ _ => rfl, fun _ _ _ h => h, fun _ _ _ => rfl, fun _ _ _ => rfl⟩ (.inl ⟨rfl, rfl, rfl, rfl⟩) fun j s _ => by
      cases s <;> simp [RsDj]
    exact this.less id (fun i j _ _ e => e) fun i hi => by rw [id, List.getElem?_append_left hi]
  · simp only [srcE, Nat.beq_refl, cond_true, elems, rd, hw.1, hw.2]
end Go.Dn

namespace Go.Dn
open Go Go.RowKit

/-- data that stays, cut off ahead -/
abbrev statAt (n : Nat) : SI := ⟨none, n, none, false⟩

theorem rv_off {S : St} {G : Gh} {w : World} {es n : Nat} {ys : List AV} {v : Value} (h : Rv S G w (.sl es (statAt n) ys) v) : Rv S G w (.sl es stat ys) v := by
  simp only [Rv] at h ⊢
  exact h

theorem rl_off {S : St} {G : Gh} {w : World} {es n : Nat} {ys : List AV} : ∀ {pr : List AV} {vs : List Value}, Rl S G w (pr ++ [.sl es (statAt n) ys]) vs → Rl S G w (pr ++ [.sl es stat ys]) vs
  | [], vs, h => by
    simp only [List.nil_append, Rl] at h ⊢
    obtain ⟨v, r, rfl, hv, hr⟩ := h
    exact ⟨v, r, rfl, rv_off hv, hr⟩
  | a :: pr, vs, h => by
    simp only [List.cons_append, Rl] at h ⊢
    obtain ⟨v, r, rfl, hv, hr⟩ := h
    exact ⟨v, r, rfl, hv, rl_off hr⟩

theorem PF.off {P : Program} {gt : GT} {f : FuncId} {pr : List AV} {es : Nat} {ys : List AV} {u : AV} (h : PF (AC P gt) f (pr ++ [.sl es stat ys]) u) (n : Nat) : PF (AC P gt) f (pr ++ [.sl es (statAt n) ys]) u := fun S =>
  ⟨(h S).1, fun G w args hI hx => (h S).2 G w args hI (rl_off hx)⟩
end Go.Dn

namespace Go.Dn
open Go Go.Proofs.C1
set_option maxRecDepth 100000
attribute [local irreducible] afterS keepE

theorem setT_step {w t : PT} {s : PS} {r : List PS} {ki : Int} (h : atT t s = ki) : setT w t (s :: r) = if ki < 0 then none else match t.kids[ki.toNat]? with
    | none => none
    | some k => match setT w k r with
      | none => none
      | some x => some (.mk t.k t.s t.keys (t.kids.set ki.toNat x)) := by subst h; rfl

theorem take_set_step {kids : List PT} {m i : Nat} {x : PT} (h : i < kids.length) : encTs ((kids.set m x).take (i + 1)) = encTs ((kids.set m x).take i) ++ [encT (if i = m then x else kids[i])] := by
  rw [List.take_succ_eq_append_getElem (by rw [List.length_set]; exact h), encTs_app, List.getElem_set]
  by_cases e : m = i
  · rw [if_pos e, if_pos e.symm]; rfl
  · rw [if_neg e, if_neg fun q => e q.symm]; rfl

section
variable {gt : GT} {C : CallT}

abbrev E_set (m : Nat) (x : PT) (k : Int) (s : List UInt8) (keys : List (List UInt8)) (o1 o2 : SI) (all kids : List PT) (i : Int) : Env :=
  [(6, .box zT), (8, .val (.int .i64 m)), (9, .box (encT x).cells), (11, .box [.int .i64 k, .str s, .sl 1 o1 (strs keys), .sl 4 o2 (encTs kids)]), (54, .val (.sl 4 stat (encTs all))), (55, .val (.int .i64 (encTs all).length)), (56, .val (.int .i64 i))]

set_option maxHeartbeats 8000000 in
theorem set_wp (hm : MonoC C) (hpart : ∀ t s, t.ok → PF C 56 [encT t, encS s] (.int .i64 (atT t s))) (hcopy : ∀ t : PT, t.ok → PF C 31 [encT t] (encT t))
    {t w : PT} {path : List PS} (ih : ∀ (u : PT) (p : List PS), u.ok → p.length < path.length → PF C 57 [encT u, encT w, .sl 2 (statAt 1) (encSs p)] (encGet (setT w u p)))
    (hk : t.ok) (hw : w.ok) : wpF gt C F57 [encT t, encT w, .sl 2 stat (encSs path)] St.init (Ret (encGet (setT w t path))) := by
  have hcw := hcopy w hw
  obtain ⟨wk, ws, wkeys, wkids⟩ := w
  have hlp := encSs_len path
  have hk0 := hk
  obtain ⟨k, s, keys, kids⟩ := t
  simp only [PT.ok] at hk
  obtain ⟨q1, q2, q3⟩ := hk
  have hR := (Hs.init.addNil 9 true).addNil 25 true
  refine ⟨rfl, ?_⟩
  (try refine And.intro (by rfl) ?_); (conv => whnf); repeat (first | (refine sI (by rfl) ?_; conv => whnf) | (refine sD (by rfl) (by rfl) ?_; conv => whnf) | (generalize hE : keepE _ _ = e0; revert hE; apply kI; (repeat (first | exact kN _ | (apply kC; with_unfolding_all rfl; rfl))); rintro rfl; (conv => whnf); conv => whnf))
  cases path with
  | nil =>
    rw [eqI_true (show (((encSs []).length : Nat) : Int) = 0 from rfl)]
    (try refine And.intro (by rfl) ?_); (conv => whnf); repeat (first | (refine sI (by rfl) ?_; conv => whnf) | (refine sD (by rfl) (by rfl) ?_; conv => whnf) | (generalize hE : keepE _ _ = e0; revert hE; apply kI; (repeat (first | exact kN _ | (apply kC; with_unfolding_all rfl; rfl))); rintro rfl; (conv => whnf); conv => whnf))
    refine call_pf hm (by rfl) hcw ?_
    (try refine And.intro (by rfl) ?_); (conv => whnf); repeat (first | (refine sI (by rfl) ?_; conv => whnf) | (refine sD (by rfl) (by rfl) ?_; conv => whnf) | (generalize hE : keepE _ _ = e0; revert hE; apply kI; (repeat (first | exact kN _ | (apply kC; with_unfolding_all rfl; rfl))); rintro rfl; (conv => whnf); conv => whnf))
    exact ⟨_, rfl, Ret.sta ⟨sta_T (.mk wk ws wkeys wkids), trivial, trivial⟩⟩
  | cons ps r =>
  have hpart := hpart (.mk k s keys kids) ps hk0
  have hlt := atT_lt (.mk k s keys kids) ps
  have hf := fun ki h => setT_step (w := .mk wk ws wkeys wkids) (t := .mk k s keys kids) (s := ps) (r := r) (ki := ki) h
  generalize setT (.mk wk ws wkeys wkids) (.mk k s keys kids) (ps :: r) = res at hf ⊢
  have hf := hf _ rfl
  obtain ⟨key, num⟩ := ps
  simp only [PT.kids, PT.k, PT.s, PT.keys] at hf hlt
  generalize atT (.mk k s keys kids) ⟨key, num⟩ = ki at hpart hf hlt
  have hl1 : (encSs (⟨key, num⟩ :: r)).length = r.length + 1 := by rw [encSs_len]; rfl
  rw [eqI_false (by omega)]
  (try refine And.intro (by rfl) ?_); (conv => whnf); repeat (first | (refine sI (by rfl) ?_; conv => whnf) | (refine sD (by rfl) (by rfl) ?_; conv => whnf) | (generalize hE : keepE _ _ = e0; revert hE; apply kI; (repeat (first | exact kN _ | (apply kC; with_unfolding_all rfl; rfl))); rintro rfl; (conv => whnf); conv => whnf))
  refine call_pfD hm (by rfl) hpart ?_
  (try refine And.intro (by rfl) ?_); (conv => whnf); repeat (first | (refine sI (by rfl) ?_; conv => whnf) | (refine sD (by rfl) (by rfl) ?_; conv => whnf) | (generalize hE : keepE _ _ = e0; revert hE; apply kI; (repeat (first | exact kN _ | (apply kC; with_unfolding_all rfl; rfl))); rintro rfl; (conv => whnf); conv => whnf))
  by_cases hneg : ki < 0
  · rw [decide_eq_true hneg]
    (try refine And.intro (by rfl) ?_); (conv => whnf); repeat (first | (refine sI (by rfl) ?_; conv => whnf) | (refine sD (by rfl) (by rfl) ?_; conv => whnf) | (generalize hE : keepE _ _ = e0; revert hE; apply kI; (repeat (first | exact kN _ | (apply kC; with_unfolding_all rfl; rfl))); rintro rfl; (conv => whnf); conv => whnf))
    rw [if_pos hneg] at hf
    rw [hf]
    exact ⟨_, rfl, ret_tup2 rdo_zT trivial⟩
  rw [decide_eq_false hneg]
  rw [if_neg hneg] at hf
  obtain ⟨m, rfl⟩ : ∃ m : Nat, ki = m := ⟨ki.toNat, by omega⟩
  have hmk : m < kids.length := by omega
  simp only [Int.toNat_natCast, List.getElem?_eq_getElem hmk] at hf
  have hlk := encTs_len kids
  have hok := PT.oks_get q3 (List.getElem?_eq_getElem hmk)
  have ih := ih kids[m] r hok (by simp)
  (try refine And.intro (by rfl) ?_); (conv => whnf); repeat (first | (refine sI (by rfl) ?_; conv => whnf) | (refine sD (by rfl) (by rfl) ?_; conv => whnf) | (generalize hE : keepE _ _ = e0; revert hE; apply kI; (repeat (first | exact kN _ | (apply kC; with_unfolding_all rfl; rfl))); rintro rfl; (conv => whnf); conv => whnf))
  refine step_ruleDO rfl rfl (sx_ia (k := m) rfl rfl (by omega)) ?_
  (try refine And.intro (by rfl) ?_); (conv => whnf); repeat (first | (refine sI (by rfl) ?_; conv => whnf) | (refine sD (by rfl) (by rfl) ?_; conv => whnf) | (generalize hE : keepE _ _ = e0; revert hE; apply kI; (repeat (first | exact kN _ | (apply kC; with_unfolding_all rfl; rfl))); rintro rfl; (conv => whnf); conv => whnf))
  refine step_ruleDO rfl rfl (sx_ldEl (agg := true) rfl rfl (encTs_get hmk) (rdT _)) ?_
  (try refine And.intro (by rfl) ?_); (conv => whnf); repeat (first | (refine sI (by rfl) ?_; conv => whnf) | (refine sD (by rfl) (by rfl) ?_; conv => whnf) | (generalize hE : keepE _ _ = e0; revert hE; apply kI; (repeat (first | exact kN _ | (apply kC; with_unfolding_all rfl; rfl))); rintro rfl; (conv => whnf); conv => whnf))
  refine step_ruleDO rfl rfl (sx_slLoA (l := 1) rfl rfl (by first | omega | exact Nat.succ_pos _)) ?_
  (try refine And.intro (by rfl) ?_); (conv => whnf); repeat (first | (refine sI (by rfl) ?_; conv => whnf) | (refine sD (by rfl) (by rfl) ?_; conv => whnf) | (generalize hE : keepE _ _ = e0; revert hE; apply kI; (repeat (first | exact kN _ | (apply kC; with_unfolding_all rfl; rfl))); rintro rfl; (conv => whnf); conv => whnf))
  refine call_pfD hm (by rfl) ih ?_
  cases hx : setT (.mk wk ws wkeys wkids) kids[m] r with
  | none =>
    rw [hx] at hf
    simp only at hf
    rw [hf]
    (try refine And.intro (by rfl) ?_); (conv => whnf); repeat (first | (refine sI (by rfl) ?_; conv => whnf) | (refine sD (by rfl) (by rfl) ?_; conv => whnf) | (generalize hE : keepE _ _ = e0; revert hE; apply kI; (repeat (first | exact kN _ | (apply kC; with_unfolding_all rfl; rfl))); rintro rfl; (conv => whnf); conv => whnf))
    exact ⟨_, rfl, ret_tup2 rdo_zT trivial⟩
  | some x =>
    rw [hx] at hf
    simp only at hf
    have hxe := encT_eq x
    obtain ⟨xk, xs, xkeys, xkids⟩ := x
    rw [hf]
    (try refine And.intro (by rfl) ?_); (conv => whnf); repeat (first | (refine sI (by rfl) ?_; conv => whnf) | (refine sD (by rfl) (by rfl) ?_; conv => whnf) | (generalize hE : keepE _ _ = e0; revert hE; apply kI; (repeat (first | exact kN _ | (apply kC; with_unfolding_all rfl; rfl))); rintro rfl; (conv => whnf); conv => whnf))
    refine r_app hR 0 rfl trivial rfl rfl rfl (by rw [strs_length]; simpa using q1) (by rw [strs_length]; simp; omega) (by decide) (by decide) (cells_strs keys) ?_
    intro o1 S1 hR
    (try refine And.intro (by rfl) ?_); (conv => whnf); repeat (first | (refine sI (by rfl) ?_; conv => whnf) | (refine sD (by rfl) (by rfl) ?_; conv => whnf) | (generalize hE : keepE _ _ = e0; revert hE; apply kI; (repeat (first | exact kN _ | (apply kC; with_unfolding_all rfl; rfl))); rintro rfl; (conv => whnf); conv => whnf))
    refine loop_rule hm (α := Nat) (fun i env S' => i ≤ kids.length ∧ ∃ o2, Hs S' [.gr 9 o1 (strs keys), .gr 25 o2 (encTs ((kids.set m (.mk xk xs xkeys xkids)).take i))] ∧ env = E_set m (.mk xk xs xkeys xkids) k s keys o1 o2 kids ((kids.set m (.mk xk xs xkeys xkids)).take i) i) (fun i => kids.length - i) ?_ (a := 0) ⟨Nat.zero_le _, _, hR, rfl⟩
    rintro i env S' ⟨hi, o2, hR, rfl⟩
    (try refine And.intro (by rfl) ?_); (conv => whnf); repeat (first | (refine sI (by rfl) ?_; conv => whnf) | (refine sD (by rfl) (by rfl) ?_; conv => whnf) | (generalize hE : keepE _ _ = e0; revert hE; apply kI; (repeat (first | exact kN _ | (apply kC; with_unfolding_all rfl; rfl))); rintro rfl; (conv => whnf); conv => whnf))
    by_cases h : (i : Int) < (encTs kids).length
    · rw [decide_eq_true h]
      (try refine And.intro (by rfl) ?_); (conv => whnf); repeat (first | (refine sI (by rfl) ?_; conv => whnf) | (refine sD (by rfl) (by rfl) ?_; conv => whnf) | (generalize hE : keepE _ _ = e0; revert hE; apply kI; (repeat (first | exact kN _ | (apply kC; with_unfolding_all rfl; rfl))); rintro rfl; (conv => whnf); conv => whnf))
      have hik : i < kids.length := by omega
      have hts := take_set_step (m := m) (x := .mk xk xs xkeys xkids) hik
      have hlt : (encTs ((kids.set m (.mk xk xs xkeys xkids)).take i)).length = i := by rw [encTs_len, List.length_take, List.length_set]; omega
      refine step_ruleO (sx_ia (k := i) rfl rfl (by omega)) ?_
      (try refine And.intro (by rfl) ?_); (conv => whnf); repeat (first | (refine sI (by rfl) ?_; conv => whnf) | (refine sD (by rfl) (by rfl) ?_; conv => whnf) | (generalize hE : keepE _ _ = e0; revert hE; apply kI; (repeat (first | exact kN _ | (apply kC; with_unfolding_all rfl; rfl))); rintro rfl; (conv => whnf); conv => whnf))
      refine step_ruleO (sx_ldEl (agg := true) rfl rfl (encTs_get hik) (rdT _)) ?_
      have hcopy := hcopy _ (PT.oks_get q3 (List.getElem?_eq_getElem hik))
      have hok2 := encT_ok kids[i]
      obtain ⟨ka, sa, xa, ya, he⟩ := encT_agg kids[i]
      rw [he] at hcopy hok2 ⊢
      (try refine And.intro (by rfl) ?_); (conv => whnf); repeat (first | (refine sI (by rfl) ?_; conv => whnf) | (refine sD (by rfl) (by rfl) ?_; conv => whnf) | (generalize hE : keepE _ _ = e0; revert hE; apply kI; (repeat (first | exact kN _ | (apply kC; with_unfolding_all rfl; rfl))); rintro rfl; (conv => whnf); conv => whnf))
      by_cases e : i = m
      · rw [eqI_true (show (i : Int) = m by omega)]
        rw [if_pos e] at hts
        (try refine And.intro (by rfl) ?_); (conv => whnf); repeat (first | (refine sI (by rfl) ?_; conv => whnf) | (refine sD (by rfl) (by rfl) ?_; conv => whnf) | (generalize hE : keepE _ _ = e0; revert hE; apply kI; (repeat (first | exact kN _ | (apply kC; with_unfolding_all rfl; rfl))); rintro rfl; (conv => whnf); conv => whnf))
        obtain ⟨hR, hsrc⟩ := hR.bldT 25 1
        refine r_app hR 1 rfl trivial rfl rfl (hsrc _ _ _) (by rw [hlt]; simp; omega) (by rw [hlt]; simp; omega) (by decide) (by decide) (encT_ok (.mk xk xs xkeys xkids)) ?_
        intro o3 S3 hR
        (try refine And.intro (by rfl) ?_); (conv => whnf); repeat (first | (refine sI (by rfl) ?_; conv => whnf) | (refine sD (by rfl) (by rfl) ?_; conv => whnf) | (generalize hE : keepE _ _ = e0; revert hE; apply kI; (repeat (first | exact kN _ | (apply kC; with_unfolding_all rfl; rfl))); rintro rfl; (conv => whnf); conv => whnf))
        refine ⟨i + 1, ⟨by omega, o3, by rw [hts]; exact hR, ?_⟩, by omega⟩
        rw [wrNat (by omega)]
        simp only [E_set, hts]
        try rfl
      · rw [eqI_false (show ¬ (i : Int) = m by omega)]
        rw [if_neg e, he] at hts
        (try refine And.intro (by rfl) ?_); (conv => whnf); repeat (first | (refine sI (by rfl) ?_; conv => whnf) | (refine sD (by rfl) (by rfl) ?_; conv => whnf) | (generalize hE : keepE _ _ = e0; revert hE; apply kI; (repeat (first | exact kN _ | (apply kC; with_unfolding_all rfl; rfl))); rintro rfl; (conv => whnf); conv => whnf))
        refine call_pfD hm (by rfl) hcopy ?_
        (try refine And.intro (by rfl) ?_); (conv => whnf); repeat (first | (refine sI (by rfl) ?_; conv => whnf) | (refine sD (by rfl) (by rfl) ?_; conv => whnf) | (generalize hE : keepE _ _ = e0; revert hE; apply kI; (repeat (first | exact kN _ | (apply kC; with_unfolding_all rfl; rfl))); rintro rfl; (conv => whnf); conv => whnf))
        refine r_appD hR 1 rfl (by trivial) rfl rfl rfl (by rw [hlt]; simp; omega) (by rw [hlt]; simp; omega) (by decide) (by decide) hok2 ?_
        intro o3 S3 hR
        (try refine And.intro (by rfl) ?_); (conv => whnf); repeat (first | (refine sI (by rfl) ?_; conv => whnf) | (refine sD (by rfl) (by rfl) ?_; conv => whnf) | (generalize hE : keepE _ _ = e0; revert hE; apply kI; (repeat (first | exact kN _ | (apply kC; with_unfolding_all rfl; rfl))); rintro rfl; (conv => whnf); conv => whnf))
        refine ⟨i + 1, ⟨by omega, o3, by rw [hts]; exact hR, ?_⟩, by omega⟩
        rw [wrNat (by omega)]
        simp only [E_set, hts]
        try rfl
    · rw [decide_eq_false h]
      (try refine And.intro (by rfl) ?_); (conv => whnf); repeat (first | (refine sI (by rfl) ?_; conv => whnf) | (refine sD (by rfl) (by rfl) ?_; conv => whnf) | (generalize hE : keepE _ _ = e0; revert hE; apply kI; (repeat (first | exact kN _ | (apply kC; with_unfolding_all rfl; rfl))); rintro rfl; (conv => whnf); conv => whnf))
      have : (kids.set m (.mk xk xs xkeys xkids)).take i = kids.set m (.mk xk xs xkeys xkids) := List.take_of_length_le (by rw [List.length_set]; omega)
      rw [this] at hR ⊢
      exact ⟨_, rfl, ret_tup2 (rdo_T hR (i := 0) (j := 1) rfl rfl) trivial⟩

set_option maxHeartbeats 2000000 in
theorem setP_wp (hm : MonoC C) {t w : PT} {path : List PS} (h : PF C 57 [encT t, encT w, .sl 2 stat (encSs path)] (encGet (setT w t path))) : wpF gt C F23 [encT t, encT w, .sl 2 stat (encSs path)] St.init (Ret (encSet (setT w t path))) := by
  generalize setT w t path = res at h ⊢
  obtain ⟨k, s, keys, kids⟩ := t
  obtain ⟨wk, ws, wkeys, wkids⟩ := w
  refine ⟨rfl, ?_⟩
  (try refine And.intro (by rfl) ?_); (conv => whnf); repeat (first | (refine sI (by rfl) ?_; conv => whnf) | (refine sD (by rfl) (by rfl) ?_; conv => whnf) | (generalize hE : keepE _ _ = e0; revert hE; apply kI; (repeat (first | exact kN _ | (apply kC; with_unfolding_all rfl; rfl))); rintro rfl; (conv => whnf); conv => whnf))
  refine call_pf hm (by rfl) h ?_
  cases res with
  | none =>
    (try refine And.intro (by rfl) ?_); (conv => whnf); repeat (first | (refine sI (by rfl) ?_; conv => whnf) | (refine sD (by rfl) (by rfl) ?_; conv => whnf) | (generalize hE : keepE _ _ = e0; revert hE; apply kI; (repeat (first | exact kN _ | (apply kC; with_unfolding_all rfl; rfl))); rintro rfl; (conv => whnf); conv => whnf))
    exact ⟨_, rfl, ret_tup2 rdo_zT trivial⟩
  | some x =>
    obtain ⟨xk, xs, xkeys, xkids⟩ := x
    (try refine And.intro (by rfl) ?_); (conv => whnf); repeat (first | (refine sI (by rfl) ?_; conv => whnf) | (refine sD (by rfl) (by rfl) ?_; conv => whnf) | (generalize hE : keepE _ _ = e0; revert hE; apply kI; (repeat (first | exact kN _ | (apply kC; with_unfolding_all rfl; rfl))); rintro rfl; (conv => whnf); conv => whnf))
    exact ⟨_, rfl, Ret.sta ⟨sta_T (.mk xk xs xkeys xkids), trivial, trivial⟩⟩
end
end Go.Dn

namespace Go.Dn
open Go Go.Proofs.C1
set_option maxRecDepth 100000
attribute [local irreducible] afterS keepE

theorem encTs_el (l : List PT) : ∀ y ∈ encTs l, El true 4 y := by
  induction l with
  | nil => intro y hy; simp [encTs] at hy
  | cons t r ih =>
    intro y hy
    simp only [encTs, List.mem_cons] at hy
    rcases hy with rfl | hy
    · cases t; exact ⟨rfl, rfl⟩
    · exact ih y hy
theorem encTs_set : ∀ (l : List PT) (i : Nat) (x : PT), encTs (l.set i x) = (encTs l).set i (encT x)
  | [], _, _ => rfl
  | a :: r, 0, x => rfl
  | a :: r, i + 1, x => by simp only [List.set_cons_succ, encTs, encTs_set r i x]

/-- a list of trees that has grown, written in place -/
def GrW (R : List Rs) (ty : TypeId) (o : SI) (ys : List AV) (S : St) : Prop := ∃ t l b, o = ⟨some (t, l), 0, none, false⟩ ∧ Hs S ((R ++ [.bx b ty (ys.flatMap AV.cells ++ [])]) ++ [.mk t l b])

theorem gr_stT {gt : GT} {S : St} {R : List Rs} {ty : TypeId} {o : SI} {kids : List PT} {m : Nat} {x : PT} {d : Option Nat} {env : Env} {a y : DOpd} (hR : Hs S (R ++ [.gr ty o (encTs kids)])) (ha : loc env a = some (.el 4 o (encTs kids) m 0)) (hx : opd env y = some (encT x)) (hk : m < kids.length) :
    ∃ S', stepO gt d env S (.st 4 a y) = .done (putV d .undef env) S' ∧ GrW R ty o (encTs (kids.set m x)) S' := by
  have hlk := encTs_len kids
  have hl : (encTs kids)[m].cells.length = 4 := (encTs_el kids _ (List.getElem_mem (by omega))).1
  have hx4 : (encT x).cells.length = 4 := by cases x; rfl
  have hxo : (Nat.beq (encT x).cells.length 4 && (encT x).cells.all ok1) = true := by cases x; rfl
  rw [encTs_set]
  exact gr_st (off := 0) hR (fun y hy => (encTs_el _ y hy).1) ha hx hxo (by omega) (by omega) (splice_all (by rw [hl, hx4])).symm

section
variable {gt : GT} {C : CallT}

abbrev E_plc (keys : List (List UInt8)) (key : List UInt8) (i : Int) : Env := [(0, .val (.sl 1 stat (strs keys))), (1, .val (.str key)), (5, .val (.int .i64 i))]

set_option maxHeartbeats 2000000 in
theorem place_wp (hm : MonoC C) {keys : List (List UInt8)} {key : List UInt8} (hl : keys.length < 4611686018427387904) : wpF gt C F105 [.sl 1 stat (strs keys), .str key] St.init (Ret (.int .i64 (plc key keys 0))) := by
  have l1 := strs_length keys
  refine ⟨rfl, ?_⟩
  (try refine And.intro (by rfl) ?_); (conv => whnf); repeat (first | (refine sI (by rfl) ?_; conv => whnf) | (refine sD (by rfl) (by rfl) ?_; conv => whnf) | (generalize hE : keepE _ _ = e0; revert hE; apply kI; (repeat (first | exact kN _ | (apply kC; with_unfolding_all rfl; rfl))); rintro rfl; (conv => whnf); conv => whnf))
  refine loop_rule hm (α := Nat) (fun i env S' => i ≤ keys.length ∧ env = E_plc keys key i ∧ S' = St.init ∧ plc key keys 0 = plc key (keys.drop i) i) (fun i => keys.length - i) ?_ (a := 0) ⟨Nat.zero_le _, rfl, rfl, rfl⟩
  rintro i env S' ⟨hi, rfl, rfl, hp⟩
  (try refine And.intro (by rfl) ?_); (conv => whnf); repeat (first | (refine sI (by rfl) ?_; conv => whnf) | (refine sD (by rfl) (by rfl) ?_; conv => whnf) | (generalize hE : keepE _ _ = e0; revert hE; apply kI; (repeat (first | exact kN _ | (apply kC; with_unfolding_all rfl; rfl))); rintro rfl; (conv => whnf); conv => whnf))
  by_cases hc : (i : Int) < (strs keys).length
  · rw [decide_eq_true hc]
    (try refine And.intro (by rfl) ?_); (conv => whnf); repeat (first | (refine sI (by rfl) ?_; conv => whnf) | (refine sD (by rfl) (by rfl) ?_; conv => whnf) | (generalize hE : keepE _ _ = e0; revert hE; apply kI; (repeat (first | exact kN _ | (apply kC; with_unfolding_all rfl; rfl))); rintro rfl; (conv => whnf); conv => whnf))
    have hik : i < keys.length := by omega
    rw [plc_step hik] at hp
    refine step_ruleO (sx_ia (k := i) rfl rfl (by omega)) ?_
    (try refine And.intro (by rfl) ?_); (conv => whnf); repeat (first | (refine sI (by rfl) ?_; conv => whnf) | (refine sD (by rfl) (by rfl) ?_; conv => whnf) | (generalize hE : keepE _ _ = e0; revert hE; apply kI; (repeat (first | exact kN _ | (apply kC; with_unfolding_all rfl; rfl))); rintro rfl; (conv => whnf); conv => whnf))
    refine step_ruleO (sx_ldEl (agg := false) rfl rfl (strs_at hik) rfl) ?_
    (try refine And.intro (by rfl) ?_); (conv => whnf); repeat (first | (refine sI (by rfl) ?_; conv => whnf) | (refine sD (by rfl) (by rfl) ?_; conv => whnf) | (generalize hE : keepE _ _ = e0; revert hE; apply kI; (repeat (first | exact kN _ | (apply kC; with_unfolding_all rfl; rfl))); rintro rfl; (conv => whnf); conv => whnf))
    by_cases z : keys[i] = key
    · rw [beqB_true z]
      (try refine And.intro (by rfl) ?_); (conv => whnf); repeat (first | (refine sI (by rfl) ?_; conv => whnf) | (refine sD (by rfl) (by rfl) ?_; conv => whnf) | (generalize hE : keepE _ _ = e0; revert hE; apply kI; (repeat (first | exact kN _ | (apply kC; with_unfolding_all rfl; rfl))); rintro rfl; (conv => whnf); conv => whnf))
      refine ⟨_, rfl, ?_⟩
      rw [hp, if_pos z]
      exact Ret.sta trivial
    · rw [beqB_false z]
      (try refine And.intro (by rfl) ?_); (conv => whnf); repeat (first | (refine sI (by rfl) ?_; conv => whnf) | (refine sD (by rfl) (by rfl) ?_; conv => whnf) | (generalize hE : keepE _ _ = e0; revert hE; apply kI; (repeat (first | exact kN _ | (apply kC; with_unfolding_all rfl; rfl))); rintro rfl; (conv => whnf); conv => whnf))
      refine ⟨i + 1, ⟨by omega, ?_, rfl, by rw [hp, if_neg z]⟩, by omega⟩
      rw [wrNat (by omega)]; try rfl
  · rw [decide_eq_false hc]
    (try refine And.intro (by rfl) ?_); (conv => whnf); repeat (first | (refine sI (by rfl) ?_; conv => whnf) | (refine sD (by rfl) (by rfl) ?_; conv => whnf) | (generalize hE : keepE _ _ = e0; revert hE; apply kI; (repeat (first | exact kN _ | (apply kC; with_unfolding_all rfl; rfl))); rintro rfl; (conv => whnf); conv => whnf))
    refine ⟨_, rfl, ?_⟩
    rw [hp, List.drop_eq_nil_of_le (by omega)]
    exact Ret.sta trivial

set_option maxHeartbeats 4000000 in
theorem at3_wp (hm : MonoC C) (hi : ∀ (keys : List (List UInt8)) (key : List UInt8), keys.length < 4611686018427387904 → PF C 105 [.sl 1 stat (strs keys), .str key] (.int .i64 (plc key keys 0)))
    {t : PT} {s : PS} (hk : t.ok) : wpF gt C F77 [encT t, encS s] St.init (Ret (.int .i64 (atT t s))) := by
  obtain ⟨k, tx, keys, kids⟩ := t
  obtain ⟨key, num⟩ := s
  simp only [PT.ok] at hk
  obtain ⟨q1, q2, q3⟩ := hk
  have hi := hi keys key (by omega)
  have l1 := encTs_len kids
  have ret : ∀ {z : Int} {S : St}, atT (.mk k tx keys kids) ⟨key, num⟩ = z → Ret (.int .i64 (atT (.mk k tx keys kids) ⟨key, num⟩)) (.ret (.int .i64 z)) S := fun h => by rw [h]; exact Ret.sta trivial
  have hf := @atT_mk k tx keys kids key num
  have hpl := plc_lt key keys 0
  generalize atT (.mk k tx keys kids) ⟨key, num⟩ = res at ret hf ⊢
  generalize plc key keys 0 = pl at hi hf hpl
  refine ⟨rfl, ?_⟩
  (try refine And.intro (by rfl) ?_); (conv => whnf); repeat (first | (refine sI (by rfl) ?_; conv => whnf) | (refine sD (by rfl) (by rfl) ?_; conv => whnf) | (generalize hE : keepE _ _ = e0; revert hE; apply kI; (repeat (first | exact kN _ | (apply kC; with_unfolding_all rfl; rfl))); rintro rfl; (conv => whnf); conv => whnf))
  by_cases k7 : k = 7
  · rw [eqI_true k7]
    rw [if_neg (by omega)] at hf
    (try refine And.intro (by rfl) ?_); (conv => whnf); repeat (first | (refine sI (by rfl) ?_; conv => whnf) | (refine sD (by rfl) (by rfl) ?_; conv => whnf) | (generalize hE : keepE _ _ = e0; revert hE; apply kI; (repeat (first | exact kN _ | (apply kC; with_unfolding_all rfl; rfl))); rintro rfl; (conv => whnf); conv => whnf))
    by_cases z0 : num = 0
    · rw [eqI_true z0]
      (try refine And.intro (by rfl) ?_); (conv => whnf); repeat (first | (refine sI (by rfl) ?_; conv => whnf) | (refine sD (by rfl) (by rfl) ?_; conv => whnf) | (generalize hE : keepE _ _ = e0; revert hE; apply kI; (repeat (first | exact kN _ | (apply kC; with_unfolding_all rfl; rfl))); rintro rfl; (conv => whnf); conv => whnf))
      refine call_pf hm (by rfl) hi ?_
      (try refine And.intro (by rfl) ?_); (conv => whnf); repeat (first | (refine sI (by rfl) ?_; conv => whnf) | (refine sD (by rfl) (by rfl) ?_; conv => whnf) | (generalize hE : keepE _ _ = e0; revert hE; apply kI; (repeat (first | exact kN _ | (apply kC; with_unfolding_all rfl; rfl))); rintro rfl; (conv => whnf); conv => whnf))
      by_cases z1 : pl < 0
      · rw [decide_eq_true z1]
        (try refine And.intro (by rfl) ?_); (conv => whnf); repeat (first | (refine sI (by rfl) ?_; conv => whnf) | (refine sD (by rfl) (by rfl) ?_; conv => whnf) | (generalize hE : keepE _ _ = e0; revert hE; apply kI; (repeat (first | exact kN _ | (apply kC; with_unfolding_all rfl; rfl))); rintro rfl; (conv => whnf); conv => whnf))
        refine ⟨_, rfl, ret ?_⟩
        rw [hf]
        split <;> omega
      · rw [decide_eq_false z1]
        (try refine And.intro (by rfl) ?_); (conv => whnf); repeat (first | (refine sI (by rfl) ?_; conv => whnf) | (refine sD (by rfl) (by rfl) ?_; conv => whnf) | (generalize hE : keepE _ _ = e0; revert hE; apply kI; (repeat (first | exact kN _ | (apply kC; with_unfolding_all rfl; rfl))); rintro rfl; (conv => whnf); conv => whnf))
        by_cases z2 : pl ≥ (encTs kids).length
        · rw [decide_eq_true z2]
          (try refine And.intro (by rfl) ?_); (conv => whnf); repeat (first | (refine sI (by rfl) ?_; conv => whnf) | (refine sD (by rfl) (by rfl) ?_; conv => whnf) | (generalize hE : keepE _ _ = e0; revert hE; apply kI; (repeat (first | exact kN _ | (apply kC; with_unfolding_all rfl; rfl))); rintro rfl; (conv => whnf); conv => whnf))
          exact ⟨_, rfl, ret (by rw [hf, if_neg fun h => by omega])⟩
        · rw [decide_eq_false z2]
          (try refine And.intro (by rfl) ?_); (conv => whnf); repeat (first | (refine sI (by rfl) ?_; conv => whnf) | (refine sD (by rfl) (by rfl) ?_; conv => whnf) | (generalize hE : keepE _ _ = e0; revert hE; apply kI; (repeat (first | exact kN _ | (apply kC; with_unfolding_all rfl; rfl))); rintro rfl; (conv => whnf); conv => whnf))
          exact ⟨_, rfl, ret (by rw [hf, if_pos ⟨k7, z0, by omega⟩])⟩
    · rw [eqI_false z0]
      rw [if_neg fun h => z0 h.2.1] at hf
      (try refine And.intro (by rfl) ?_); (conv => whnf); repeat (first | (refine sI (by rfl) ?_; conv => whnf) | (refine sD (by rfl) (by rfl) ?_; conv => whnf) | (generalize hE : keepE _ _ = e0; revert hE; apply kI; (repeat (first | exact kN _ | (apply kC; with_unfolding_all rfl; rfl))); rintro rfl; (conv => whnf); conv => whnf))
      rw [eqI_false (show ¬ k = 6 by omega)]
      (try refine And.intro (by rfl) ?_); (conv => whnf); repeat (first | (refine sI (by rfl) ?_; conv => whnf) | (refine sD (by rfl) (by rfl) ?_; conv => whnf) | (generalize hE : keepE _ _ = e0; revert hE; apply kI; (repeat (first | exact kN _ | (apply kC; with_unfolding_all rfl; rfl))); rintro rfl; (conv => whnf); conv => whnf))
      exact ⟨_, rfl, ret hf⟩
  · rw [eqI_false k7]
    (try refine And.intro (by rfl) ?_); (conv => whnf); repeat (first | (refine sI (by rfl) ?_; conv => whnf) | (refine sD (by rfl) (by rfl) ?_; conv => whnf) | (generalize hE : keepE _ _ = e0; revert hE; apply kI; (repeat (first | exact kN _ | (apply kC; with_unfolding_all rfl; rfl))); rintro rfl; (conv => whnf); conv => whnf))
    by_cases k6 : k = 6
    · rw [eqI_true k6]
      rw [if_pos k6] at hf
      (try refine And.intro (by rfl) ?_); (conv => whnf); repeat (first | (refine sI (by rfl) ?_; conv => whnf) | (refine sD (by rfl) (by rfl) ?_; conv => whnf) | (generalize hE : keepE _ _ = e0; revert hE; apply kI; (repeat (first | exact kN _ | (apply kC; with_unfolding_all rfl; rfl))); rintro rfl; (conv => whnf); conv => whnf))
      by_cases z1 : key = []
      · rw [beqB_true z1]
        (try refine And.intro (by rfl) ?_); (conv => whnf); repeat (first | (refine sI (by rfl) ?_; conv => whnf) | (refine sD (by rfl) (by rfl) ?_; conv => whnf) | (generalize hE : keepE _ _ = e0; revert hE; apply kI; (repeat (first | exact kN _ | (apply kC; with_unfolding_all rfl; rfl))); rintro rfl; (conv => whnf); conv => whnf))
        by_cases z2 : num < 0
        · rw [decide_eq_true z2]
          (try refine And.intro (by rfl) ?_); (conv => whnf); repeat (first | (refine sI (by rfl) ?_; conv => whnf) | (refine sD (by rfl) (by rfl) ?_; conv => whnf) | (generalize hE : keepE _ _ = e0; revert hE; apply kI; (repeat (first | exact kN _ | (apply kC; with_unfolding_all rfl; rfl))); rintro rfl; (conv => whnf); conv => whnf))
          exact ⟨_, rfl, ret (by rw [hf, if_neg fun h => by omega])⟩
        · rw [decide_eq_false z2]
          (try refine And.intro (by rfl) ?_); (conv => whnf); repeat (first | (refine sI (by rfl) ?_; conv => whnf) | (refine sD (by rfl) (by rfl) ?_; conv => whnf) | (generalize hE : keepE _ _ = e0; revert hE; apply kI; (repeat (first | exact kN _ | (apply kC; with_unfolding_all rfl; rfl))); rintro rfl; (conv => whnf); conv => whnf))
          by_cases z3 : num ≥ (encTs kids).length
          · rw [decide_eq_true z3]
            (try refine And.intro (by rfl) ?_); (conv => whnf); repeat (first | (refine sI (by rfl) ?_; conv => whnf) | (refine sD (by rfl) (by rfl) ?_; conv => whnf) | (generalize hE : keepE _ _ = e0; revert hE; apply kI; (repeat (first | exact kN _ | (apply kC; with_unfolding_all rfl; rfl))); rintro rfl; (conv => whnf); conv => whnf))
            exact ⟨_, rfl, ret (by rw [hf, if_neg fun h => by omega])⟩
          · rw [decide_eq_false z3]
            (try refine And.intro (by rfl) ?_); (conv => whnf); repeat (first | (refine sI (by rfl) ?_; conv => whnf) | (refine sD (by rfl) (by rfl) ?_; conv => whnf) | (generalize hE : keepE _ _ = e0; revert hE; apply kI; (repeat (first | exact kN _ | (apply kC; with_unfolding_all rfl; rfl))); rintro rfl; (conv => whnf); conv => whnf))
            exact ⟨_, rfl, ret (by rw [hf, if_pos ⟨z1, by omega, by omega⟩])⟩
      · rw [beqB_false z1]
        (try refine And.intro (by rfl) ?_); (conv => whnf); repeat (first | (refine sI (by rfl) ?_; conv => whnf) | (refine sD (by rfl) (by rfl) ?_; conv => whnf) | (generalize hE : keepE _ _ = e0; revert hE; apply kI; (repeat (first | exact kN _ | (apply kC; with_unfolding_all rfl; rfl))); rintro rfl; (conv => whnf); conv => whnf))
        exact ⟨_, rfl, ret (by rw [hf, if_neg fun h => z1 h.1])⟩
    · rw [eqI_false k6]
      rw [if_neg k6, if_neg fun h => k7 h.1] at hf
      (try refine And.intro (by rfl) ?_); (conv => whnf); repeat (first | (refine sI (by rfl) ?_; conv => whnf) | (refine sD (by rfl) (by rfl) ?_; conv => whnf) | (generalize hE : keepE _ _ = e0; revert hE; apply kI; (repeat (first | exact kN _ | (apply kC; with_unfolding_all rfl; rfl))); rintro rfl; (conv => whnf); conv => whnf))
      exact ⟨_, rfl, ret hf⟩

abbrev E_get3 (cur : PT) (path : List PS) (i : Int) : Env := [(1, .val (.sl 2 stat (encSs path))), (2, .box (encT cur).cells), (4, .box zT), (6, .val (.int .i64 i))]

set_option maxHeartbeats 4000000 in
theorem get3_wp (hm : MonoC C) (hpart : ∀ t s, t.ok → PF C 77 [encT t, encS s] (.int .i64 (atT t s)))
    {t : PT} {path : List PS} (hk : t.ok) (hp : path.length ≤ 4611686018427387904) : wpF gt C F43 [encT t, .sl 2 stat (encSs path)] St.init (Ret (encGet (getT t path))) := by
  have hlp := encSs_len path
  have hn := encT_agg t
  refine ⟨rfl, ?_⟩
  (try refine And.intro (by rfl) ?_); (conv => whnf); repeat (first | (refine sI (by rfl) ?_; conv => whnf) | (refine sD (by rfl) (by rfl) ?_; conv => whnf) | (generalize hE : keepE _ _ = e0; revert hE; apply kI; (repeat (first | exact kN _ | (apply kC; with_unfolding_all rfl; rfl))); rintro rfl; (conv => whnf); conv => whnf))
  refine loop_rule hm (α := Nat × PT) (fun a env S' => a.1 ≤ path.length ∧ env = E_get3 a.2 path a.1 ∧ S' = St.init ∧ a.2.ok ∧ getT t path = getT a.2 (path.drop a.1)) (fun a => path.length - a.1) ?_ (a := (0, t)) ⟨Nat.zero_le _, ?_, rfl, hk, rfl⟩
  case refine_2 => obtain ⟨w0, w1, w2, w3, he⟩ := hn; simp only [E_get3, he]; try rfl
  clear hn hk
  rintro ⟨i, cur⟩ env S' ⟨hi, rfl, rfl, hk, hf⟩
  simp only at hi hk hf
  obtain ⟨k, s, keys, kids⟩ := cur
  (try refine And.intro (by rfl) ?_); (conv => whnf); repeat (first | (refine sI (by rfl) ?_; conv => whnf) | (refine sD (by rfl) (by rfl) ?_; conv => whnf) | (generalize hE : keepE _ _ = e0; revert hE; apply kI; (repeat (first | exact kN _ | (apply kC; with_unfolding_all rfl; rfl))); rintro rfl; (conv => whnf); conv => whnf))
  by_cases hc : (i : Int) < (encSs path).length
  · rw [decide_eq_true hc]
    (try refine And.intro (by rfl) ?_); (conv => whnf); repeat (first | (refine sI (by rfl) ?_; conv => whnf) | (refine sD (by rfl) (by rfl) ?_; conv => whnf) | (generalize hE : keepE _ _ = e0; revert hE; apply kI; (repeat (first | exact kN _ | (apply kC; with_unfolding_all rfl; rfl))); rintro rfl; (conv => whnf); conv => whnf))
    have hik : i < path.length := by omega
    rw [List.drop_eq_getElem_cons hik] at hf
    have hpart := hpart (.mk k s keys kids) path[i] hk
    have hge := encSs_get hik
    have hlt := atT_lt (.mk k s keys kids) path[i]
    generalize path[i] = ps at hf hpart hge hlt
    obtain ⟨key, num⟩ := ps
    simp only [getT, PT.kids] at hf hlt
    generalize atT (.mk k s keys kids) ⟨key, num⟩ = ki at hpart hf hlt
    refine step_ruleDO rfl rfl (sx_ia (k := i) rfl rfl (by omega)) ?_
    (try refine And.intro (by rfl) ?_); (conv => whnf); repeat (first | (refine sI (by rfl) ?_; conv => whnf) | (refine sD (by rfl) (by rfl) ?_; conv => whnf) | (generalize hE : keepE _ _ = e0; revert hE; apply kI; (repeat (first | exact kN _ | (apply kC; with_unfolding_all rfl; rfl))); rintro rfl; (conv => whnf); conv => whnf))
    refine step_ruleDO rfl rfl (sx_ldEl (agg := true) rfl rfl hge (rdS _)) ?_
    (try refine And.intro (by rfl) ?_); (conv => whnf); repeat (first | (refine sI (by rfl) ?_; conv => whnf) | (refine sD (by rfl) (by rfl) ?_; conv => whnf) | (generalize hE : keepE _ _ = e0; revert hE; apply kI; (repeat (first | exact kN _ | (apply kC; with_unfolding_all rfl; rfl))); rintro rfl; (conv => whnf); conv => whnf))
    refine call_pfD hm (by rfl) hpart ?_
    (try refine And.intro (by rfl) ?_); (conv => whnf); repeat (first | (refine sI (by rfl) ?_; conv => whnf) | (refine sD (by rfl) (by rfl) ?_; conv => whnf) | (generalize hE : keepE _ _ = e0; revert hE; apply kI; (repeat (first | exact kN _ | (apply kC; with_unfolding_all rfl; rfl))); rintro rfl; (conv => whnf); conv => whnf))
    by_cases hneg : ki < 0
    · rw [decide_eq_true hneg]
      (try refine And.intro (by rfl) ?_); (conv => whnf); repeat (first | (refine sI (by rfl) ?_; conv => whnf) | (refine sD (by rfl) (by rfl) ?_; conv => whnf) | (generalize hE : keepE _ _ = e0; revert hE; apply kI; (repeat (first | exact kN _ | (apply kC; with_unfolding_all rfl; rfl))); rintro rfl; (conv => whnf); conv => whnf))
      rw [if_pos hneg] at hf
      rw [hf]
      exact ⟨_, rfl, ret_tup2 rdo_zT trivial⟩
    rw [decide_eq_false hneg]
    rw [if_neg hneg] at hf
    obtain ⟨m, rfl⟩ : ∃ m : Nat, ki = m := ⟨ki.toNat, by omega⟩
    have hmk : m < kids.length := by omega
    simp only [Int.toNat_natCast, List.getElem?_eq_getElem hmk] at hf
    simp only [PT.ok] at hk
    obtain ⟨q1, q2, q3⟩ := hk
    have hlk := encTs_len kids
    have hok := PT.oks_get q3 (List.getElem?_eq_getElem hmk)
    (try refine And.intro (by rfl) ?_); (conv => whnf); repeat (first | (refine sI (by rfl) ?_; conv => whnf) | (refine sD (by rfl) (by rfl) ?_; conv => whnf) | (generalize hE : keepE _ _ = e0; revert hE; apply kI; (repeat (first | exact kN _ | (apply kC; with_unfolding_all rfl; rfl))); rintro rfl; (conv => whnf); conv => whnf))
    refine step_ruleO (sx_ia (k := m) rfl rfl (by omega)) ?_
    (try refine And.intro (by rfl) ?_); (conv => whnf); repeat (first | (refine sI (by rfl) ?_; conv => whnf) | (refine sD (by rfl) (by rfl) ?_; conv => whnf) | (generalize hE : keepE _ _ = e0; revert hE; apply kI; (repeat (first | exact kN _ | (apply kC; with_unfolding_all rfl; rfl))); rintro rfl; (conv => whnf); conv => whnf))
    refine step_ruleO (sx_ldEl (agg := true) rfl rfl (encTs_get hmk) (rdT _)) ?_
    obtain ⟨w0, w1, w2, w3, he⟩ := encT_agg kids[m]
    rw [he]
    (try refine And.intro (by rfl) ?_); (conv => whnf); repeat (first | (refine sI (by rfl) ?_; conv => whnf) | (refine sD (by rfl) (by rfl) ?_; conv => whnf) | (generalize hE : keepE _ _ = e0; revert hE; apply kI; (repeat (first | exact kN _ | (apply kC; with_unfolding_all rfl; rfl))); rintro rfl; (conv => whnf); conv => whnf))
    refine ⟨(i + 1, kids[m]), ⟨by simp only; omega, ?_, rfl, hok, hf⟩, by simp only; omega⟩
    simp only [E_get3, he]
    rw [wrNat (by omega)]; try rfl
  · rw [decide_eq_false hc]
    rw [hf, List.drop_eq_nil_of_le (by omega)]
    (try refine And.intro (by rfl) ?_); (conv => whnf); repeat (first | (refine sI (by rfl) ?_; conv => whnf) | (refine sD (by rfl) (by rfl) ?_; conv => whnf) | (generalize hE : keepE _ _ = e0; revert hE; apply kI; (repeat (first | exact kN _ | (apply kC; with_unfolding_all rfl; rfl))); rintro rfl; (conv => whnf); conv => whnf))
    exact ⟨_, rfl, Ret.sta ⟨sta_T (.mk k s keys kids), trivial, trivial⟩⟩

set_option maxHeartbeats 8000000 in
theorem set3_wp (hm : MonoC C) (hpart : ∀ t s, t.ok → PF C 77 [encT t, encS s] (.int .i64 (atT t s))) (hcopy : ∀ t : PT, t.ok → PF C 37 [encT t] (encT t)) (hown : ∀ u : PT, u.ok → C 37 [encT u] St.init (OwnT u))
    {t w : PT} {path : List PS} (ih : ∀ (u : PT) (p : List PS), u.ok → p.length < path.length → PF C 44 [encT u, encT w, .sl 2 (statAt 1) (encSs p)] (encSet (setT w u p)))
    (hk : t.ok) (hw : w.ok) : wpF gt C F44 [encT t, encT w, .sl 2 stat (encSs path)] St.init (Ret (encSet (setT w t path))) := by
  have hcw := hcopy w hw
  have hown := hown t hk
  obtain ⟨wk, ws, wkeys, wkids⟩ := w
  have hlp := encSs_len path
  have hk0 := hk
  obtain ⟨k, s, keys, kids⟩ := t
  simp only [PT.ok] at hk
  obtain ⟨q1, q2, q3⟩ := hk
  refine ⟨rfl, ?_⟩
  (try refine And.intro (by rfl) ?_); (conv => whnf); repeat (first | (refine sI (by rfl) ?_; conv => whnf) | (refine sD (by rfl) (by rfl) ?_; conv => whnf) | (generalize hE : keepE _ _ = e0; revert hE; apply kI; (repeat (first | exact kN _ | (apply kC; with_unfolding_all rfl; rfl))); rintro rfl; (conv => whnf); conv => whnf))
  cases path with
  | nil =>
    rw [eqI_true (show (((encSs []).length : Nat) : Int) = 0 from rfl)]
    (try refine And.intro (by rfl) ?_); (conv => whnf); repeat (first | (refine sI (by rfl) ?_; conv => whnf) | (refine sD (by rfl) (by rfl) ?_; conv => whnf) | (generalize hE : keepE _ _ = e0; revert hE; apply kI; (repeat (first | exact kN _ | (apply kC; with_unfolding_all rfl; rfl))); rintro rfl; (conv => whnf); conv => whnf))
    refine call_pf hm (by rfl) hcw ?_
    (try refine And.intro (by rfl) ?_); (conv => whnf); repeat (first | (refine sI (by rfl) ?_; conv => whnf) | (refine sD (by rfl) (by rfl) ?_; conv => whnf) | (generalize hE : keepE _ _ = e0; revert hE; apply kI; (repeat (first | exact kN _ | (apply kC; with_unfolding_all rfl; rfl))); rintro rfl; (conv => whnf); conv => whnf))
    exact ⟨_, rfl, Ret.sta ⟨sta_T (.mk wk ws wkeys wkids), trivial, trivial⟩⟩
  | cons ps r =>
  have hpart := hpart (.mk k s keys kids) ps hk0
  have hlt := atT_lt (.mk k s keys kids) ps
  have hf := fun ki h => setT_step (w := .mk wk ws wkeys wkids) (t := .mk k s keys kids) (s := ps) (r := r) (ki := ki) h
  generalize setT (.mk wk ws wkeys wkids) (.mk k s keys kids) (ps :: r) = res at hf ⊢
  have hf := hf _ rfl
  obtain ⟨key, num⟩ := ps
  simp only [PT.kids, PT.k, PT.s, PT.keys] at hf hlt
  generalize atT (.mk k s keys kids) ⟨key, num⟩ = ki at hpart hf hlt
  have hl1 : (encSs (⟨key, num⟩ :: r)).length = r.length + 1 := by rw [encSs_len]; rfl
  rw [eqI_false (by omega)]
  (try refine And.intro (by rfl) ?_); (conv => whnf); repeat (first | (refine sI (by rfl) ?_; conv => whnf) | (refine sD (by rfl) (by rfl) ?_; conv => whnf) | (generalize hE : keepE _ _ = e0; revert hE; apply kI; (repeat (first | exact kN _ | (apply kC; with_unfolding_all rfl; rfl))); rintro rfl; (conv => whnf); conv => whnf))
  refine call_pfD hm (by rfl) hpart ?_
  (try refine And.intro (by rfl) ?_); (conv => whnf); repeat (first | (refine sI (by rfl) ?_; conv => whnf) | (refine sD (by rfl) (by rfl) ?_; conv => whnf) | (generalize hE : keepE _ _ = e0; revert hE; apply kI; (repeat (first | exact kN _ | (apply kC; with_unfolding_all rfl; rfl))); rintro rfl; (conv => whnf); conv => whnf))
  by_cases hneg : ki < 0
  · rw [decide_eq_true hneg]
    (try refine And.intro (by rfl) ?_); (conv => whnf); repeat (first | (refine sI (by rfl) ?_; conv => whnf) | (refine sD (by rfl) (by rfl) ?_; conv => whnf) | (generalize hE : keepE _ _ = e0; revert hE; apply kI; (repeat (first | exact kN _ | (apply kC; with_unfolding_all rfl; rfl))); rintro rfl; (conv => whnf); conv => whnf))
    rw [if_pos hneg] at hf
    rw [hf]
    exact ⟨_, rfl, ret_tup2 rdo_zT trivial⟩
  rw [decide_eq_false hneg]
  rw [if_neg hneg] at hf
  obtain ⟨m, rfl⟩ : ∃ m : Nat, ki = m := ⟨ki.toNat, by omega⟩
  have hmk : m < kids.length := by omega
  simp only [Int.toNat_natCast, List.getElem?_eq_getElem hmk] at hf
  have hlk := encTs_len kids
  have hok := PT.oks_get q3 (List.getElem?_eq_getElem hmk)
  have ih := ih kids[m] r hok (by simp)
  (try refine And.intro (by rfl) ?_); (conv => whnf); repeat (first | (refine sI (by rfl) ?_; conv => whnf) | (refine sD (by rfl) (by rfl) ?_; conv => whnf) | (generalize hE : keepE _ _ = e0; revert hE; apply kI; (repeat (first | exact kN _ | (apply kC; with_unfolding_all rfl; rfl))); rintro rfl; (conv => whnf); conv => whnf))
  refine step_ruleDO rfl rfl (sx_ia (k := m) rfl rfl (by omega)) ?_
  (try refine And.intro (by rfl) ?_); (conv => whnf); repeat (first | (refine sI (by rfl) ?_; conv => whnf) | (refine sD (by rfl) (by rfl) ?_; conv => whnf) | (generalize hE : keepE _ _ = e0; revert hE; apply kI; (repeat (first | exact kN _ | (apply kC; with_unfolding_all rfl; rfl))); rintro rfl; (conv => whnf); conv => whnf))
  refine step_ruleDO rfl rfl (sx_ldEl (agg := true) rfl rfl (encTs_get hmk) (rdT _)) ?_
  (try refine And.intro (by rfl) ?_); (conv => whnf); repeat (first | (refine sI (by rfl) ?_; conv => whnf) | (refine sD (by rfl) (by rfl) ?_; conv => whnf) | (generalize hE : keepE _ _ = e0; revert hE; apply kI; (repeat (first | exact kN _ | (apply kC; with_unfolding_all rfl; rfl))); rintro rfl; (conv => whnf); conv => whnf))
  refine step_ruleDO rfl rfl (sx_slLoA (l := 1) rfl rfl (by first | omega | exact Nat.succ_pos _)) ?_
  (try refine And.intro (by rfl) ?_); (conv => whnf); repeat (first | (refine sI (by rfl) ?_; conv => whnf) | (refine sD (by rfl) (by rfl) ?_; conv => whnf) | (generalize hE : keepE _ _ = e0; revert hE; apply kI; (repeat (first | exact kN _ | (apply kC; with_unfolding_all rfl; rfl))); rintro rfl; (conv => whnf); conv => whnf))
  refine call_pfD hm (by rfl) ih ?_
  cases hx : setT (.mk wk ws wkeys wkids) kids[m] r with
  | none =>
    rw [hx] at hf
    simp only at hf
    rw [hf]
    (try refine And.intro (by rfl) ?_); (conv => whnf); repeat (first | (refine sI (by rfl) ?_; conv => whnf) | (refine sD (by rfl) (by rfl) ?_; conv => whnf) | (generalize hE : keepE _ _ = e0; revert hE; apply kI; (repeat (first | exact kN _ | (apply kC; with_unfolding_all rfl; rfl))); rintro rfl; (conv => whnf); conv => whnf))
    exact ⟨_, rfl, ret_tup2 rdo_zT trivial⟩
  | some x =>
    rw [hx] at hf
    simp only at hf
    obtain ⟨xk, xs, xkeys, xkids⟩ := x
    rw [hf]
    (try refine And.intro (by rfl) ?_); (conv => whnf); repeat (first | (refine sI (by rfl) ?_; conv => whnf) | (refine sD (by rfl) (by rfl) ?_; conv => whnf) | (generalize hE : keepE _ _ = e0; revert hE; apply kI; (repeat (first | exact kN _ | (apply kC; with_unfolding_all rfl; rfl))); rintro rfl; (conv => whnf); conv => whnf))
    refine call_rule (by rfl) (hm _ _ _ _ _ hown ?_)
    rintro r' S1 ⟨o1, o2, rfl, hR⟩
    (try refine And.intro (by rfl) ?_); (conv => whnf); repeat (first | (refine sI (by rfl) ?_; conv => whnf) | (refine sD (by rfl) (by rfl) ?_; conv => whnf) | (generalize hE : keepE _ _ = e0; revert hE; apply kI; (repeat (first | exact kN _ | (apply kC; with_unfolding_all rfl; rfl))); rintro rfl; (conv => whnf); conv => whnf))
    refine step_ruleO (sx_ia (k := m) rfl rfl (by show m < (encTs kids).length; omega)) ?_
    (try refine And.intro (by rfl) ?_); (conv => whnf); repeat (first | (refine sI (by rfl) ?_; conv => whnf) | (refine sD (by rfl) (by rfl) ?_; conv => whnf) | (generalize hE : keepE _ _ = e0; revert hE; apply kI; (repeat (first | exact kN _ | (apply kC; with_unfolding_all rfl; rfl))); rintro rfl; (conv => whnf); conv => whnf))
    have hR : Hs S1 ([.gr 9 o1 (strs keys)] ++ [.gr 25 o2 (encTs kids)]) := hR
    refine st_runP (gr_stT hR (x := .mk xk xs xkeys xkids) rfl rfl (by omega)) (by trivial) ?_
    rintro S2 ⟨t', l', b, rfl, hR2⟩
    (try refine And.intro (by rfl) ?_); (conv => whnf); repeat (first | (refine sI (by rfl) ?_; conv => whnf) | (refine sD (by rfl) (by rfl) ?_; conv => whnf) | (generalize hE : keepE _ _ = e0; revert hE; apply kI; (repeat (first | exact kN _ | (apply kC; with_unfolding_all rfl; rfl))); rintro rfl; (conv => whnf); conv => whnf))
    have he := arr_els hR2 (i := 1) (j := 2) rfl rfl (encTs_el _) (off := 0) (cap := none) (nl := false) (xs := encTs kids) (by rw [encTs_len, encTs_len, List.length_set]; omega)
    rw [List.drop_zero, List.take_of_length_le (by rw [encTs_len, encTs_len, List.length_set]; omega)] at he
    refine ⟨_, rfl, ret_tup2 ?_ trivial⟩
    simp only [encT, PT.k, PT.s, PT.keys, PT.kids]
    rw [Rdo]
    refine ⟨_, rfl, ?_⟩
    simp only [Rdos]
    refine ⟨_, _, rfl, by simp only [Rdo], _, _, rfl, by simp only [Rdo], _, _, rfl, hR2.rdo (i := 0) rfl (rdos_strs keys), _, _, rfl, ?_, rfl⟩
    simp only [Rdo]
    exact ⟨trivial, _, _, true, _, rfl, he, rdos_Ts _⟩
end
end Go.Dn

namespace Go.Dn
open Go Go.Proofs.C1
set_option maxRecDepth 100000
attribute [local irreducible] afterS keepE

theorem zeroT_ok : PT.zero.ok := by simp [PT.zero, PT.ok, PT.oks]

section
variable {gt : GT} {C : CallT}

def smallB (t : PT) : Bool := decide (size3 t 6000 < 6000)

set_option maxHeartbeats 2000000 in
theorem small_wp (hm : MonoC C) (hsize : ∀ (u : PT) m, m < 4611686018427387904 → PF C 28 [encT u, .int .i64 m] (.int .i64 (size3 u m))) {t : PT} : wpF gt C F26 [encT t] St.init (Ret (.bool (smallB t))) := by
  have h := hsize t 6000 (by omega)
  unfold smallB
  generalize size3 t 6000 = z at h ⊢
  obtain ⟨k, s, keys, kids⟩ := t
  refine ⟨rfl, ?_⟩
  (try refine And.intro (by rfl) ?_); (conv => whnf); repeat (first | (refine sI (by rfl) ?_; conv => whnf) | (refine sD (by rfl) (by rfl) ?_; conv => whnf) | (generalize hE : keepE _ _ = e0; revert hE; apply kI; (repeat (first | exact kN _ | (apply kC; with_unfolding_all rfl; rfl))); rintro rfl; (conv => whnf); conv => whnf))
  refine call_pf hm (by rfl) h ?_
  (try refine And.intro (by rfl) ?_); (conv => whnf); repeat (first | (refine sI (by rfl) ?_; conv => whnf) | (refine sD (by rfl) (by rfl) ?_; conv => whnf) | (generalize hE : keepE _ _ = e0; revert hE; apply kI; (repeat (first | exact kN _ | (apply kC; with_unfolding_all rfl; rfl))); rintro rfl; (conv => whnf); conv => whnf))
  exact ⟨_, rfl, Ret.sta trivial⟩

set_option maxHeartbeats 4000000 in
theorem treeGets_wp (hm : MonoC C) (hruns : PF C 3 [] (.bool true)) (hsmall : ∀ u : PT, PF C 26 [encT u] (.bool (smallB u)))
    (hroomy : ∀ (p : List PS) m, p.length ≤ 1000000 → PF C 42 [.sl 2 stat (encSs p), encS m] (.sl 2 stat (encSs (p ++ List.replicate 80 m))))
    (hintact : ∀ (p : List PS) m, p.length ≤ 1000000 → PF C 45 [.sl 2 stat (encSs (p ++ List.replicate 80 m)), .sl 2 stat (encSs p), encS m] (.bool true))
    (hget : ∀ (t : PT) (path : List PS), t.ok → path.length ≤ 4611686018427387904 → PF C 21 [encT t, .sl 2 stat (encSs path)] (encGet (getT t path)))
    (hgetR : ∀ (t : PT) (path : List PS), t.ok → path.length ≤ 4611686018427387904 → PF C 43 [encT t, .sl 2 stat (encSs path)] (encGet (getT t path)))
    (hset : ∀ (t w : PT) (path : List PS), t.ok → w.ok → path.length ≤ 4611686018427387904 → PF C 23 [encT t, encT w, .sl 2 stat (encSs path)] (encSet (setT w t path)))
    (hsetR : ∀ (t w : PT) (path : List PS), t.ok → w.ok → path.length ≤ 4611686018427387904 → PF C 44 [encT t, encT w, .sl 2 stat (encSs path)] (encSet (setT w t path)))
    (hplain : ∀ t u : PT, t.ok → PF C 32 [encT t, encT u] (.bool (eqT t u)))
    {t w : PT} {path : List PS} (hk : t.ok) (hw : w.ok) (hp : path.length ≤ 140737488355328) : wpF gt C F11 [encT t, encT w, .sl 2 stat (encSs path)] St.init (Ret (.bool true)) := by
  have hst := hsmall t
  have hsw := hsmall w
  have l0 := encSs_len path
  obtain ⟨q, hq, hq2⟩ : ∃ q : List PS, (q = if path.length > 70 then path.take 70 else path) ∧ q.length ≤ 70 := ⟨_, rfl, by
    split
    · rw [List.length_take]; omega
    · omega⟩
  have l1 := encSs_len q
  have l2 := encSs_len (q ++ List.replicate 80 (⟨[103, 111, 110, 101], 0⟩ : PS))
  simp only [List.length_append, List.length_replicate] at l2
  have hroomy := hroomy q ⟨[103, 111, 110, 101], 0⟩ (by omega)
  have hintact := hintact q ⟨[103, 111, 110, 101], 0⟩ (by omega)
  have hg := hget t q hk (by omega)
  have hgR := hgetR t q hk (by omega)
  have hs := hset t w q hk hw (by omega)
  have hsR := hsetR t w q hk hw (by omega)
  have htk : (encSs (q ++ List.replicate 80 (⟨[103, 111, 110, 101], 0⟩ : PS))).take q.length = encSs q := by rw [encSs_take]; simp
  have hx : ∃ (x : PT) (ok : Bool), encGet (getT t q) = .tup [encT x, .bool ok] ∧ x.ok := by
    cases hh : getT t q with
    | none => exact ⟨_, _, rfl, zeroT_ok⟩
    | some x => exact ⟨x, true, rfl, getT_ok hk hh⟩
  obtain ⟨x, ok, hx, hxk⟩ := hx
  have hy : ∃ (y : PT) (e : Int), encSet (setT w t q) = .tup [encT y, .int .i64 e] ∧ y.ok := by
    cases hh : setT w t q with
    | none => exact ⟨_, _, rfl, zeroT_ok⟩
    | some y => exact ⟨y, 0, rfl, setT_ok hw hk hh⟩
  obtain ⟨y, e, hy, hyk⟩ := hy
  rw [hx] at hg hgR
  rw [hy] at hs hsR
  have hp1 := hplain x x hxk
  have hp2 := hplain y y hyk
  rw [eqT_true rfl] at hp1 hp2
  clear hx hy
  generalize smallB t = bt at hst
  generalize smallB w = bw at hsw
  obtain ⟨k, s, keys, kids⟩ := t
  obtain ⟨wk, ws, wkeys, wkids⟩ := w
  obtain ⟨xk, xs, xkeys, xkids⟩ := x
  obtain ⟨yk, ys, ykeys, ykids⟩ := y
  refine ⟨rfl, ?_⟩
  (try refine And.intro (by rfl) ?_); (conv => whnf); repeat (first | (refine sI (by rfl) ?_; conv => whnf) | (refine sD (by rfl) (by rfl) ?_; conv => whnf) | (generalize hE : keepE _ _ = e0; revert hE; apply kI; (repeat (first | exact kN _ | (apply kC; with_unfolding_all rfl; rfl))); rintro rfl; (conv => whnf); conv => whnf))
  refine call_pf hm (by rfl) hst ?_
  cases bt with
  | false =>
    (try refine And.intro (by rfl) ?_); (conv => whnf); repeat (first | (refine sI (by rfl) ?_; conv => whnf) | (refine sD (by rfl) (by rfl) ?_; conv => whnf) | (generalize hE : keepE _ _ = e0; revert hE; apply kI; (repeat (first | exact kN _ | (apply kC; with_unfolding_all rfl; rfl))); rintro rfl; (conv => whnf); conv => whnf))
    refine call_pf hm (by rfl) hruns ?_
    (try refine And.intro (by rfl) ?_); (conv => whnf); repeat (first | (refine sI (by rfl) ?_; conv => whnf) | (refine sD (by rfl) (by rfl) ?_; conv => whnf) | (generalize hE : keepE _ _ = e0; revert hE; apply kI; (repeat (first | exact kN _ | (apply kC; with_unfolding_all rfl; rfl))); rintro rfl; (conv => whnf); conv => whnf))
    exact ⟨_, rfl, Ret.sta trivial⟩
  | true =>
  (try refine And.intro (by rfl) ?_); (conv => whnf); repeat (first | (refine sI (by rfl) ?_; conv => whnf) | (refine sD (by rfl) (by rfl) ?_; conv => whnf) | (generalize hE : keepE _ _ = e0; revert hE; apply kI; (repeat (first | exact kN _ | (apply kC; with_unfolding_all rfl; rfl))); rintro rfl; (conv => whnf); conv => whnf))
  refine call_pf hm (by rfl) hsw ?_
  cases bw with
  | false =>
    (try refine And.intro (by rfl) ?_); (conv => whnf); repeat (first | (refine sI (by rfl) ?_; conv => whnf) | (refine sD (by rfl) (by rfl) ?_; conv => whnf) | (generalize hE : keepE _ _ = e0; revert hE; apply kI; (repeat (first | exact kN _ | (apply kC; with_unfolding_all rfl; rfl))); rintro rfl; (conv => whnf); conv => whnf))
    refine call_pf hm (by rfl) hruns ?_
    (try refine And.intro (by rfl) ?_); (conv => whnf); repeat (first | (refine sI (by rfl) ?_; conv => whnf) | (refine sD (by rfl) (by rfl) ?_; conv => whnf) | (generalize hE : keepE _ _ = e0; revert hE; apply kI; (repeat (first | exact kN _ | (apply kC; with_unfolding_all rfl; rfl))); rintro rfl; (conv => whnf); conv => whnf))
    exact ⟨_, rfl, Ret.sta trivial⟩
  | true =>
  (try refine And.intro (by rfl) ?_); (conv => whnf); repeat (first | (refine sI (by rfl) ?_; conv => whnf) | (refine sD (by rfl) (by rfl) ?_; conv => whnf) | (generalize hE : keepE _ _ = e0; revert hE; apply kI; (repeat (first | exact kN _ | (apply kC; with_unfolding_all rfl; rfl))); rintro rfl; (conv => whnf); conv => whnf))
  by_cases h70 : ((encSs path).length : Int) > 70
  · rw [decide_eq_true h70]
    (try refine And.intro (by rfl) ?_); (conv => whnf); repeat (first | (refine sI (by rfl) ?_; conv => whnf) | (refine sD (by rfl) (by rfl) ?_; conv => whnf) | (generalize hE : keepE _ _ = e0; revert hE; apply kI; (repeat (first | exact kN _ | (apply kC; with_unfolding_all rfl; rfl))); rintro rfl; (conv => whnf); conv => whnf))
    refine step_ruleO (sx_slHi (h := 70) rfl rfl (by omega)) ?_
    rw [encSs_take, show path.take 70 = q by rw [hq, if_pos (by omega)]]
    (try refine And.intro (by rfl) ?_); (conv => whnf); repeat (first | (refine sI (by rfl) ?_; conv => whnf) | (refine sD (by rfl) (by rfl) ?_; conv => whnf) | (generalize hE : keepE _ _ = e0; revert hE; apply kI; (repeat (first | exact kN _ | (apply kC; with_unfolding_all rfl; rfl))); rintro rfl; (conv => whnf); conv => whnf))
    refine call_pf hm (by rfl) hroomy ?_
    (try refine And.intro (by rfl) ?_); (conv => whnf); repeat (first | (refine sI (by rfl) ?_; conv => whnf) | (refine sD (by rfl) (by rfl) ?_; conv => whnf) | (generalize hE : keepE _ _ = e0; revert hE; apply kI; (repeat (first | exact kN _ | (apply kC; with_unfolding_all rfl; rfl))); rintro rfl; (conv => whnf); conv => whnf))
    refine step_ruleDO rfl rfl (sx_slHi (h := q.length) rfl (by rw [← l1]; rfl) (by omega)) ?_
    rw [htk]
    (try refine And.intro (by rfl) ?_); (conv => whnf); repeat (first | (refine sI (by rfl) ?_; conv => whnf) | (refine sD (by rfl) (by rfl) ?_; conv => whnf) | (generalize hE : keepE _ _ = e0; revert hE; apply kI; (repeat (first | exact kN _ | (apply kC; with_unfolding_all rfl; rfl))); rintro rfl; (conv => whnf); conv => whnf))
    refine call_pfD hm (by rfl) hg ?_
    (try refine And.intro (by rfl) ?_); (conv => whnf); repeat (first | (refine sI (by rfl) ?_; conv => whnf) | (refine sD (by rfl) (by rfl) ?_; conv => whnf) | (generalize hE : keepE _ _ = e0; revert hE; apply kI; (repeat (first | exact kN _ | (apply kC; with_unfolding_all rfl; rfl))); rintro rfl; (conv => whnf); conv => whnf))
    refine call_pf hm (by rfl) hgR ?_
    (try refine And.intro (by rfl) ?_); (conv => whnf); repeat (first | (refine sI (by rfl) ?_; conv => whnf) | (refine sD (by rfl) (by rfl) ?_; conv => whnf) | (generalize hE : keepE _ _ = e0; revert hE; apply kI; (repeat (first | exact kN _ | (apply kC; with_unfolding_all rfl; rfl))); rintro rfl; (conv => whnf); conv => whnf))
    refine step_ruleDO rfl rfl (sx_slHi (h := q.length) rfl (by rw [← l1]; rfl) (by omega)) ?_
    rw [htk]
    (try refine And.intro (by rfl) ?_); (conv => whnf); repeat (first | (refine sI (by rfl) ?_; conv => whnf) | (refine sD (by rfl) (by rfl) ?_; conv => whnf) | (generalize hE : keepE _ _ = e0; revert hE; apply kI; (repeat (first | exact kN _ | (apply kC; with_unfolding_all rfl; rfl))); rintro rfl; (conv => whnf); conv => whnf))
    refine call_pfD hm (by rfl) hs ?_
    (try refine And.intro (by rfl) ?_); (conv => whnf); repeat (first | (refine sI (by rfl) ?_; conv => whnf) | (refine sD (by rfl) (by rfl) ?_; conv => whnf) | (generalize hE : keepE _ _ = e0; revert hE; apply kI; (repeat (first | exact kN _ | (apply kC; with_unfolding_all rfl; rfl))); rintro rfl; (conv => whnf); conv => whnf))
    refine call_pf hm (by rfl) hsR ?_
    (try refine And.intro (by rfl) ?_); (conv => whnf); repeat (first | (refine sI (by rfl) ?_; conv => whnf) | (refine sD (by rfl) (by rfl) ?_; conv => whnf) | (generalize hE : keepE _ _ = e0; revert hE; apply kI; (repeat (first | exact kN _ | (apply kC; with_unfolding_all rfl; rfl))); rintro rfl; (conv => whnf); conv => whnf))
    refine call_pf hm (by rfl) hp1 ?_
    (try refine And.intro (by rfl) ?_); (conv => whnf); repeat (first | (refine sI (by rfl) ?_; conv => whnf) | (refine sD (by rfl) (by rfl) ?_; conv => whnf) | (generalize hE : keepE _ _ = e0; revert hE; apply kI; (repeat (first | exact kN _ | (apply kC; with_unfolding_all rfl; rfl))); rintro rfl; (conv => whnf); conv => whnf))
    rw [show (ok == ok) = true by simp]
    (try refine And.intro (by rfl) ?_); (conv => whnf); repeat (first | (refine sI (by rfl) ?_; conv => whnf) | (refine sD (by rfl) (by rfl) ?_; conv => whnf) | (generalize hE : keepE _ _ = e0; revert hE; apply kI; (repeat (first | exact kN _ | (apply kC; with_unfolding_all rfl; rfl))); rintro rfl; (conv => whnf); conv => whnf))
    refine call_pf hm (by rfl) hp2 ?_
    (try refine And.intro (by rfl) ?_); (conv => whnf); repeat (first | (refine sI (by rfl) ?_; conv => whnf) | (refine sD (by rfl) (by rfl) ?_; conv => whnf) | (generalize hE : keepE _ _ = e0; revert hE; apply kI; (repeat (first | exact kN _ | (apply kC; with_unfolding_all rfl; rfl))); rintro rfl; (conv => whnf); conv => whnf))
    rw [eqI_true (rfl : e = e)]
    (try refine And.intro (by rfl) ?_); (conv => whnf); repeat (first | (refine sI (by rfl) ?_; conv => whnf) | (refine sD (by rfl) (by rfl) ?_; conv => whnf) | (generalize hE : keepE _ _ = e0; revert hE; apply kI; (repeat (first | exact kN _ | (apply kC; with_unfolding_all rfl; rfl))); rintro rfl; (conv => whnf); conv => whnf))
    refine call_pf hm (by rfl) hintact ?_
    (try refine And.intro (by rfl) ?_); (conv => whnf); repeat (first | (refine sI (by rfl) ?_; conv => whnf) | (refine sD (by rfl) (by rfl) ?_; conv => whnf) | (generalize hE : keepE _ _ = e0; revert hE; apply kI; (repeat (first | exact kN _ | (apply kC; with_unfolding_all rfl; rfl))); rintro rfl; (conv => whnf); conv => whnf))
    refine call_pf hm (by rfl) hruns ?_
    (try refine And.intro (by rfl) ?_); (conv => whnf); repeat (first | (refine sI (by rfl) ?_; conv => whnf) | (refine sD (by rfl) (by rfl) ?_; conv => whnf) | (generalize hE : keepE _ _ = e0; revert hE; apply kI; (repeat (first | exact kN _ | (apply kC; with_unfolding_all rfl; rfl))); rintro rfl; (conv => whnf); conv => whnf))
    exact ⟨_, rfl, Ret.sta trivial⟩
  · rw [decide_eq_false h70]
    (try refine And.intro (by rfl) ?_); (conv => whnf); repeat (first | (refine sI (by rfl) ?_; conv => whnf) | (refine sD (by rfl) (by rfl) ?_; conv => whnf) | (generalize hE : keepE _ _ = e0; revert hE; apply kI; (repeat (first | exact kN _ | (apply kC; with_unfolding_all rfl; rfl))); rintro rfl; (conv => whnf); conv => whnf))
    rw [show path = q by rw [hq, if_neg (by omega)]]
    refine call_pf hm (by rfl) hroomy ?_
    (try refine And.intro (by rfl) ?_); (conv => whnf); repeat (first | (refine sI (by rfl) ?_; conv => whnf) | (refine sD (by rfl) (by rfl) ?_; conv => whnf) | (generalize hE : keepE _ _ = e0; revert hE; apply kI; (repeat (first | exact kN _ | (apply kC; with_unfolding_all rfl; rfl))); rintro rfl; (conv => whnf); conv => whnf))
    refine step_ruleDO rfl rfl (sx_slHi (h := q.length) rfl (by rw [← l1]; rfl) (by omega)) ?_
    rw [htk]
    (try refine And.intro (by rfl) ?_); (conv => whnf); repeat (first | (refine sI (by rfl) ?_; conv => whnf) | (refine sD (by rfl) (by rfl) ?_; conv => whnf) | (generalize hE : keepE _ _ = e0; revert hE; apply kI; (repeat (first | exact kN _ | (apply kC; with_unfolding_all rfl; rfl))); rintro rfl; (conv => whnf); conv => whnf))
    refine call_pfD hm (by rfl) hg ?_
    (try refine And.intro (by rfl) ?_); (conv => whnf); repeat (first | (refine sI (by rfl) ?_; conv => whnf) | (refine sD (by rfl) (by rfl) ?_; conv => whnf) | (generalize hE : keepE _ _ = e0; revert hE; apply kI; (repeat (first | exact kN _ | (apply kC; with_unfolding_all rfl; rfl))); rintro rfl; (conv => whnf); conv => whnf))
    refine call_pf hm (by rfl) hgR ?_
    (try refine And.intro (by rfl) ?_); (conv => whnf); repeat (first | (refine sI (by rfl) ?_; conv => whnf) | (refine sD (by rfl) (by rfl) ?_; conv => whnf) | (generalize hE : keepE _ _ = e0; revert hE; apply kI; (repeat (first | exact kN _ | (apply kC; with_unfolding_all rfl; rfl))); rintro rfl; (conv => whnf); conv => whnf))
    refine step_ruleDO rfl rfl (sx_slHi (h := q.length) rfl (by rw [← l1]; rfl) (by omega)) ?_
    rw [htk]
    (try refine And.intro (by rfl) ?_); (conv => whnf); repeat (first | (refine sI (by rfl) ?_; conv => whnf) | (refine sD (by rfl) (by rfl) ?_; conv => whnf) | (generalize hE : keepE _ _ = e0; revert hE; apply kI; (repeat (first | exact kN _ | (apply kC; with_unfolding_all rfl; rfl))); rintro rfl; (conv => whnf); conv => whnf))
    refine call_pfD hm (by rfl) hs ?_
    (try refine And.intro (by rfl) ?_); (conv => whnf); repeat (first | (refine sI (by rfl) ?_; conv => whnf) | (refine sD (by rfl) (by rfl) ?_; conv => whnf) | (generalize hE : keepE _ _ = e0; revert hE; apply kI; (repeat (first | exact kN _ | (apply kC; with_unfolding_all rfl; rfl))); rintro rfl; (conv => whnf); conv => whnf))
    refine call_pf hm (by rfl) hsR ?_
    (try refine And.intro (by rfl) ?_); (conv => whnf); repeat (first | (refine sI (by rfl) ?_; conv => whnf) | (refine sD (by rfl) (by rfl) ?_; conv => whnf) | (generalize hE : keepE _ _ = e0; revert hE; apply kI; (repeat (first | exact kN _ | (apply kC; with_unfolding_all rfl; rfl))); rintro rfl; (conv => whnf); conv => whnf))
    refine call_pf hm (by rfl) hp1 ?_
    (try refine And.intro (by rfl) ?_); (conv => whnf); repeat (first | (refine sI (by rfl) ?_; conv => whnf) | (refine sD (by rfl) (by rfl) ?_; conv => whnf) | (generalize hE : keepE _ _ = e0; revert hE; apply kI; (repeat (first | exact kN _ | (apply kC; with_unfolding_all rfl; rfl))); rintro rfl; (conv => whnf); conv => whnf))
    rw [show (ok == ok) = true by simp]
    (try refine And.intro (by rfl) ?_); (conv => whnf); repeat (first | (refine sI (by rfl) ?_; conv => whnf) | (refine sD (by rfl) (by rfl) ?_; conv => whnf) | (generalize hE : keepE _ _ = e0; revert hE; apply kI; (repeat (first | exact kN _ | (apply kC; with_unfolding_all rfl; rfl))); rintro rfl; (conv => whnf); conv => whnf))
    refine call_pf hm (by rfl) hp2 ?_
    (try refine And.intro (by rfl) ?_); (conv => whnf); repeat (first | (refine sI (by rfl) ?_; conv => whnf) | (refine sD (by rfl) (by rfl) ?_; conv => whnf) | (generalize hE : keepE _ _ = e0; revert hE; apply kI; (repeat (first | exact kN _ | (apply kC; with_unfolding_all rfl; rfl))); rintro rfl; (conv => whnf); conv => whnf))
    rw [eqI_true (rfl : e = e)]
    (try refine And.intro (by rfl) ?_); (conv => whnf); repeat (first | (refine sI (by rfl) ?_; conv => whnf) | (refine sD (by rfl) (by rfl) ?_; conv => whnf) | (generalize hE : keepE _ _ = e0; revert hE; apply kI; (repeat (first | exact kN _ | (apply kC; with_unfolding_all rfl; rfl))); rintro rfl; (conv => whnf); conv => whnf))
    refine call_pf hm (by rfl) hintact ?_
    (try refine And.intro (by rfl) ?_); (conv => whnf); repeat (first | (refine sI (by rfl) ?_; conv => whnf) | (refine sD (by rfl) (by rfl) ?_; conv => whnf) | (generalize hE : keepE _ _ = e0; revert hE; apply kI; (repeat (first | exact kN _ | (apply kC; with_unfolding_all rfl; rfl))); rintro rfl; (conv => whnf); conv => whnf))
    refine call_pf hm (by rfl) hruns ?_
    (try refine And.intro (by rfl) ?_); (conv => whnf); repeat (first | (refine sI (by rfl) ?_; conv => whnf) | (refine sD (by rfl) (by rfl) ?_; conv => whnf) | (generalize hE : keepE _ _ = e0; revert hE; apply kI; (repeat (first | exact kN _ | (apply kC; with_unfolding_all rfl; rfl))); rintro rfl; (conv => whnf); conv => whnf))
    exact ⟨_, rfl, Ret.sta trivial⟩
end
end Go.Dn

namespace Go.Proofs.C1
open Go Go.Dn
set_option maxRecDepth 100000
theorem F3_ok : prepF Tryz.prog ⟨[1,4,6,8,10,12],[(0,[]),(1,[1]),(2,[1,2,3]),(3,[46]),(4,[0]),(5,[4,5]),(6,[79]),(7,[0]),(8,[105]),(9,[0]),(10,[6,7]),(11,[6,7,9]),(12,[6,7,9,11]),(13,[3,6,7,9,11,12]),(14,[0])],[(14,[none,none,none,none,none,none,none,none,none,none,none,none,none,none,none,none,none,none,none,none,none,none,(some 6),(some 6),none,none,none,none,none,none,none,none,none,none,none,none,none,none,none,none,none,none,(some 12),none,none,none,none])]⟩ Tryz.f3 = some F3 := by kernel_rfl
theorem F3_fn : FnOK2 Tryz.prog 3 (.pl F3) := .pl Tryz.func3 (by kernel_rfl) F3_ok
theorem F11_ok : prepF Tryz.prog ⟨[3,4,8,10,12,14],[(0,[2,3,4]),(1,[2,3,4,23]),(2,[6]),(3,[2,3,4,27]),(4,[2,3,4]),(5,[2,3,4,7]),(6,[2,3,4,7,8,9]),(7,[2,3,4,7,8,9,10,11]),(8,[2,3,4,7,8,9,10,11,12,13]),(9,[2,7,8,9,10,11,12,13,14,15]),(10,[6])],[(8,[(some 3),(some 4),none,none,none,none,none,none,none,none,none,(some 12),none]),(6,[(some 3),none,none,none,none,none,none,none,none,none,(some 8),none])]⟩ Tryz.f11 = some F11 := by kernel_rfl
theorem F11_fn : FnOK2 Tryz.prog 11 (.pl F11) := .pl Tryz.func11 (by kernel_rfl) F11_ok
theorem F15_ok : prepF Tryz.prog ⟨[1],[(0,[1]),(1,[1,4]),(2,[1,4,9]),(3,[2,3]),(4,[1,5]),(5,[5]),(6,[5,20]),(7,[2,3]),(8,[2,3])],[]⟩ Tryz.f15 = some F15 := by kernel_rfl
theorem F15_fn : FnOK2 Tryz.prog 15 (.pl F15) := .pl Tryz.func15 (by kernel_rfl) F15_ok
theorem F16_ok : prepF Tryz.prog ⟨[1],[(0,[1]),(1,[1,3]),(2,[2]),(3,[1,7]),(4,[2]),(5,[11]),(6,[2]),(7,[2])],[]⟩ Tryz.f16 = some F16 := by kernel_rfl
theorem F16_fn : FnOK2 Tryz.prog 16 (.pl F16) := .pl Tryz.func16 (by kernel_rfl) F16_ok
theorem F17_ok : prepF Tryz.prog ⟨[1,5],[(0,[1]),(1,[1,3]),(2,[3,7,8,9]),(3,[3,7,8,9,10]),(4,[3,5,7,8,9]),(5,[3,7,8,9]),(6,[3,7,8,9]),(7,[2]),(1000000,[3,7,8,9])],[]⟩ Tryz.f17 = some F17 := by kernel_rfl
theorem F17_fn : FnOK2 Tryz.prog 17 (.pl F17) := .pl Tryz.func17 (by kernel_rfl) F17_ok
theorem F18_ok : prepF Tryz.prog ⟨[1,5],[(0,[1]),(1,[1,3]),(2,[3,7,8,9]),(3,[3,7,8,9,10]),(4,[3,5,7,8,9]),(5,[3,7,8,9]),(6,[3,7,8,9]),(7,[2]),(1000000,[3,7,8,9])],[]⟩ Tryz.f18 = some F18 := by kernel_rfl
theorem F18_fn : FnOK2 Tryz.prog 18 (.pl F18) := .pl Tryz.func18 (by kernel_rfl) F18_ok
theorem F19_ok : prepF Tryz.prog ⟨[2],[(0,[1,2]),(1,[1,2,4]),(2,[2,4,5]),(3,[2,4,5,10]),(4,[2,3]),(5,[2,3])],[]⟩ Tryz.f19 = some F19 := by kernel_rfl
theorem F19_fn : FnOK2 Tryz.prog 19 (.pl F19) := .pl Tryz.func19 (by kernel_rfl) F19_ok
theorem F20_ok : prepF Tryz.prog ⟨[7],[(0,[0,1,2]),(1,[1,2,7,8]),(2,[6])],[]⟩ Tryz.f20 = some F20 := by kernel_rfl
theorem F20_fn : FnOK2 Tryz.prog 20 (.pl F20) := .pl Tryz.func20 (by kernel_rfl) F20_ok
theorem F21_ok : prepF Tryz.prog ⟨[2,4,7],[(0,[1,2,4]),(1,[2,4,9,10,11]),(2,[2,4,9,10,11,12]),(3,[2,4,7,9,10,11]),(4,[2,4,8,9,10,11]),(5,[2,4,8,9,10,11,19]),(6,[4,5]),(7,[2,4,9,10,11]),(8,[2,4,9,10,11]),(9,[4,5]),(1000000,[2,4,9,10,11])],[]⟩ Tryz.f21 = some F21 := by kernel_rfl
theorem F21_fn : FnOK2 Tryz.prog 21 (.pl F21) := .pl Tryz.func21 (by kernel_rfl) F21_ok
theorem F22_ok : prepF Tryz.prog ⟨[2,3],[(0,[0,2]),(1,[2,3]),(2,[2])],[]⟩ Tryz.f22 = some F22 := by kernel_rfl
theorem F22_fn : FnOK2 Tryz.prog 22 (.pl F22) := .pl Tryz.func22 (by kernel_rfl) F22_ok
theorem F23_ok : prepF Tryz.prog ⟨[3,4,6,8],[(0,[2,3,4,6]),(1,[6,8,9]),(2,[6,8,18]),(3,[6,7]),(4,[6,7])],[]⟩ Tryz.f23 = some F23 := by kernel_rfl
theorem F23_fn : FnOK2 Tryz.prog 23 (.pl F23) := .pl Tryz.func23 (by kernel_rfl) F23_ok
theorem F24_ok : prepF Tryz.prog ⟨[2,3],[(0,[2,3]),(1,[2,3,12]),(2,[4]),(3,[4])],[(3,[(some 2),none,(some 3),none,none,none])]⟩ Tryz.f24 = some F24 := by kernel_rfl
theorem F24_fn : FnOK2 Tryz.prog 24 (.pl F24) := .pl Tryz.func24 (by kernel_rfl) F24_ok
theorem F25_ok : prepF Tryz.prog ⟨[2,3],[(0,[2,3]),(1,[2,3,9]),(2,[14]),(3,[4]),(4,[4]),(5,[4])],[(5,[(some 2),none,(some 3),none,none,none])]⟩ Tryz.f25 = some F25 := by kernel_rfl
theorem F25_fn : FnOK2 Tryz.prog 25 (.pl F25) := .pl Tryz.func25 (by kernel_rfl) F25_ok
theorem F26_ok : prepF Tryz.prog ⟨[1],[(0,[1]),(1,[2])],[]⟩ Tryz.f26 = some F26 := by kernel_rfl
theorem F26_fn : FnOK2 Tryz.prog 26 (.pl F26) := .pl Tryz.func26 (by kernel_rfl) F26_ok
theorem F28_ok : prepF Tryz.prog ⟨[2],[(0,[1,2]),(1,[1,2,5]),(2,[1,2,5,6]),(3,[1,2,5,6,16]),(4,[1,2,5,6]),(5,[1,2,5,6]),(6,[4]),(1000000,[1,2,5,6])],[]⟩ Tryz.f28 = some F28 := by kernel_rfl
theorem F28_fn : FnOK2 Tryz.prog 28 (.pl F28) := .pl Tryz.func28 (by kernel_rfl) F28_ok
theorem F31_ok : prepF Tryz.prog ⟨[1,2,3,5],[(0,[1,2]),(1,[1,2,3]),(2,[1,2,3]),(3,[2,3,18,19,20]),(4,[2,3,18,19,20,21]),(5,[2,3,5,18,19,20]),(6,[2,3,18,19,20]),(7,[2,3,18,19,20]),(8,[2]),(1000000,[2,3,18,19,20])],[(6,[(some 3),(some 3),(some 5),none,none,none,(some 3),(some 3)])]⟩ Tryz.f31 = some F31 := by kernel_rfl
theorem F31_fn : FnOK2 Tryz.prog 31 (.pl F31) := .pl Tryz.func31 (by kernel_rfl) F31_ok
theorem F32_ok : prepF Tryz.prog ⟨[2,3],[(0,[2,3]),(1,[2,3,36]),(2,[4]),(3,[2,3,5]),(4,[2,3,5,41]),(5,[2,3,5]),(6,[2,3,5,54]),(7,[4]),(8,[2,3,6]),(9,[2,3,6,59]),(10,[2,3,6]),(11,[2,3,6,73]),(12,[4]),(13,[4]),(1000000,[2,3,5]),(1000002,[2,3,6])],[(11,[(some 2),(some 2),none,none,none,(some 3),(some 3),none,none,none,none,none]),(6,[(some 2),(some 2),none,none,none,(some 3),(some 3),none,none,none,none])]⟩ Tryz.f32 = some F32 := by kernel_rfl
theorem F32_fn : FnOK2 Tryz.prog 32 (.pl F32) := .pl Tryz.func32 (by kernel_rfl) F32_ok
theorem F34_ok : prepF Tryz.prog ⟨[1,2,3,5],[(0,[1,2]),(1,[1,2,3]),(2,[1,2,3,24]),(3,[1,2,3]),(4,[2,3,32,33,34]),(5,[2,3,32,33,34,35]),(6,[2,3,5,32,33,34]),(7,[2,3,32,33,34]),(8,[2,3,32,33,34]),(9,[2]),(10,[1,2,3,49,50,51]),(11,[1,2,3,49,50,51,52]),(12,[1,2,3,7,49,50,51]),(13,[1,2,3,7,49,50,51]),(14,[1,2,3,49,50,51]),(15,[1,2,3,49,50,51]),(16,[2]),(1000000,[2,3,32,33,34]),(1000002,[1,2,3,49,50,51])],[(14,[(some 3),(some 3),(some 1),(some 1),none,none,none,none,none,none,(some 3),(some 3)]),(13,[(some 3),(some 3),(some 1),(some 1),none,none,none,none,none,(some 3),(some 3)]),(7,[(some 3),(some 3),(some 5),none,none,none,(some 3),(some 3)])]⟩ Tryz.f34 = some F34 := by kernel_rfl
theorem F34_fn : FnOK2 Tryz.prog 34 (.pl F34) := .pl Tryz.func34 (by kernel_rfl) F34_ok
theorem F37_ok : prepF Tryz.prog ⟨[1,2,3],[(0,[1,2]),(1,[1,2,3]),(2,[1,2,3]),(3,[1,2,3,4]),(4,[1,2,3,4,20]),(5,[1,2,3,4]),(6,[1,2,3,4]),(7,[2]),(1000000,[1,2,3,4])],[(6,[(some 3),(some 3),(some 1),(some 1),none,none,none,none,none,none,(some 3),(some 3)])]⟩ Tryz.f37 = some F37 := by kernel_rfl
theorem F37_fn : FnOK2 Tryz.prog 37 (.pl F37) := .pl Tryz.func37 (by kernel_rfl) F37_ok
theorem F41_ok : prepF Tryz.prog ⟨[3],[(0,[0,3]),(1,[0,3,8]),(2,[4]),(3,[0,3,5]),(4,[4])],[(4,[none,none,none,none,none,none,none,none,none,none,none,none,none,none,none,none,none,(some 3),(some 3),none,none,none,none,none,none,none,(some 3),(some 3),none,none,none,none,none,none,none,none,none,none,none,none])]⟩ Tryz.f41 = some F41 := by kernel_rfl
theorem F41_fn : FnOK2 Tryz.prog 41 (.pl F41) := .pl Tryz.func41 (by kernel_rfl) F41_ok
theorem F42_ok : prepF Tryz.prog ⟨[3],[(0,[0,3]),(1,[0,3,5]),(2,[0,3,5]),(3,[3,5,6]),(4,[3,5,6,19]),(5,[3,5,6]),(6,[3,5,6]),(7,[4]),(1000000,[3,5,6])],[]⟩ Tryz.f42 = some F42 := by kernel_rfl
theorem F42_fn : FnOK2 Tryz.prog 42 (.pl F42) := .pl Tryz.func42 (by kernel_rfl) F42_ok
theorem F43_ok : prepF Tryz.prog ⟨[2,4],[(0,[1,2,4]),(1,[1,2,4,6]),(2,[1,2,4,6,11]),(3,[1,2,4,6]),(4,[1,2,4,6,7]),(5,[1,2,4,6,7,21]),(6,[4,5]),(7,[1,2,4,6]),(8,[4,5]),(1000000,[1,2,4,6])],[(4,[(some 2),none,none,none,none,none,none])]⟩ Tryz.f43 = some F43 := by kernel_rfl
theorem F43_fn : FnOK2 Tryz.prog 43 (.pl F43) := .pl Tryz.func43 (by kernel_rfl) F43_ok
theorem F44_ok : prepF Tryz.prog ⟨[3,4,6,9,11],[(0,[2,3,4,6]),(1,[2,3,4,6,14]),(2,[6,7]),(3,[2,3,4,6,8]),(4,[2,3,4,6,8,23]),(5,[6,7]),(6,[3,6,8,9,10]),(7,[3,6,8,9,10,38]),(8,[6,7]),(9,[6,8,9,11]),(10,[6,11]),(11,[6,7])],[(6,[(some 3),(some 3),none,none,none,(some 4),none,none,none,none,none,none,none,(some 9),none]),(3,[(some 3),none,none,none,none,none])]⟩ Tryz.f44 = some F44 := by kernel_rfl
theorem F44_fn : FnOK2 Tryz.prog 44 (.pl F44) := .pl Tryz.func44 (by kernel_rfl) F44_ok
theorem F45_ok : prepF Tryz.prog ⟨[5],[(0,[0,1,5]),(1,[0,1,5,22]),(2,[6]),(3,[0,5,7]),(4,[0,5,7,28]),(5,[0,5,7]),(6,[0,5,7,36]),(7,[6]),(8,[6]),(1000000,[0,5,7])],[(6,[none,none,none,none,(some 5),none])]⟩ Tryz.f45 = some F45 := by kernel_rfl
theorem F45_fn : FnOK2 Tryz.prog 45 (.pl F45) := .pl Tryz.func45 (by kernel_rfl) F45_ok
theorem F47_ok : prepF Tryz.prog ⟨[3,7],[(0,[0,3]),(1,[0,3,13]),(2,[0,3,13,14]),(3,[]),(4,[0,3,13,18]),(5,[0,3,13,18]),(6,[]),(7,[0,3,13,25]),(8,[0,4]),(9,[]),(10,[0,3,13,36]),(11,[]),(12,[0,3,13,43]),(13,[0,3]),(14,[0,48,49,50]),(15,[0,48,49,50,51]),(16,[0,6,7,48,49,50]),(17,[0,7,48,49,50,56]),(18,[0,7,48,49,50]),(19,[0,48,49,50]),(20,[0,48,49,50]),(21,[]),(22,[0,3,65]),(23,[0,3]),(24,[0,3,71,72,73]),(25,[0,3,71,72,73,74]),(26,[0,3,8,9,71,72,73]),(27,[0,3,9,71,72,73,79]),(28,[0,3,9,71,72,73]),(29,[0,3,9,10,71,72,73]),(30,[0,3,9,71,72,73]),(31,[0,3,71,72,73]),(32,[0,3,71,72,73]),(33,[]),(1000001,[0,48,49,50]),(1000003,[0,3,71,72,73])],[]⟩ Tryz.f47 = some F47 := by kernel_rfl
theorem F47_fn : FnOK2 Tryz.prog 47 (.pl F47) := .pl Tryz.func47 (by kernel_rfl) F47_ok
theorem F48_ok : prepF Tryz.prog ⟨[],[(0,[0]),(1,[2])],[]⟩ Tryz.f48 = some F48 := by kernel_rfl
theorem F48_fn : FnOK2 Tryz.prog 48 (.pl F48) := .pl Tryz.func48 (by kernel_rfl) F48_ok
theorem F49_ok : prepF Tryz.prog ⟨[],[(0,[0]),(1,[2])],[]⟩ Tryz.f49 = some F49 := by kernel_rfl
theorem F49_fn : FnOK2 Tryz.prog 49 (.pl F49) := .pl Tryz.func49 (by kernel_rfl) F49_ok
theorem F50_ok : prepF Tryz.prog ⟨[1,4],[(0,[1]),(1,[1,9,10,11]),(2,[1,9,10,11,12]),(3,[1,4,9,10,11]),(4,[1,9,10,11,17]),(5,[2]),(6,[1,9,10,11]),(7,[1,5]),(8,[1,5,30]),(9,[1,5,30,31]),(10,[2]),(11,[1,5,30,39]),(12,[2]),(13,[1,5,30,52]),(14,[1,5,6,7]),(15,[2]),(16,[1,5,30,71]),(17,[2]),(18,[1,5,30,79]),(19,[2]),(20,[1,30,87]),(21,[2]),(22,[1,98]),(23,[2]),(24,[2]),(1000000,[1,9,10,11])],[]⟩ Tryz.f50 = some F50 := by kernel_rfl
theorem F50_fn : FnOK2 Tryz.prog 50 (.pl F50) := .pl Tryz.func50 (by kernel_rfl) F50_ok
theorem F51_ok : prepD Tryz.prog ⟨[],[(0,[0,1,4]),(1,[0,1,4,8]),(2,[4]),(3,[0,1,4,5]),(4,[0,1,4,5,14]),(5,[4]),(6,[0,1,4]),(7,[4]),(8,[4])],[]⟩ Tryz.f51 = some F51 := by kernel_rfl
theorem F51_fn : FnOK2 Tryz.prog 51 (.df F51) := .df Tryz.func51 (by kernel_rfl) F51_ok
theorem F52_ok : prepF Tryz.prog ⟨[4],[(0,[1,2,4]),(1,[1,2,4]),(2,[2,4]),(3,[2,4]),(4,[4,20]),(5,[])],[(4,[(some 4),(some 4),none,none,none,none,none,none])]⟩ Tryz.f52 = some F52 := by kernel_rfl
theorem F52_fn : FnOK2 Tryz.prog 52 (.pl F52) := .pl Tryz.func52 (by kernel_rfl) F52_ok
theorem F53_ok : prepF Tryz.prog ⟨[1],[(0,[1]),(1,[])],[]⟩ Tryz.f53 = some F53 := by kernel_rfl
theorem F53_fn : FnOK2 Tryz.prog 53 (.pl F53) := .pl Tryz.func53 (by kernel_rfl) F53_ok
theorem F54_ok : prepF Tryz.prog ⟨[2,4,7],[(0,[1,2,4]),(1,[1,2,4,5]),(2,[1,2,4,5,13]),(3,[2,4]),(4,[4]),(5,[1,2,4,5,26]),(6,[1,2,4]),(7,[4]),(8,[1,2,4,5,38]),(9,[1,2,4]),(10,[4]),(11,[1,2,4,5,50]),(12,[1,2,4,5]),(13,[1,2,4,5,6]),(14,[1,2,4,5,6,67]),(15,[1,2,4,5,6]),(16,[4,6]),(17,[4]),(18,[1,2,4,5,7]),(19,[4,7]),(20,[4])],[]⟩ Tryz.f54 = some F54 := by kernel_rfl
theorem F54_fn : FnOK2 Tryz.prog 54 (.pl F54) := .pl Tryz.func54 (by kernel_rfl) F54_ok
theorem F55_ok : prepF Tryz.prog ⟨[],[(0,[0,11]),(1,[0]),(2,[])],[]⟩ Tryz.f55 = some F55 := by kernel_rfl
theorem F55_fn : FnOK2 Tryz.prog 55 (.pl F55) := .pl Tryz.func55 (by kernel_rfl) F55_ok
theorem F56_ok : prepF Tryz.prog ⟨[2,3],[(0,[2,3]),(1,[2,3,7]),(2,[2,3,7,8]),(3,[3,25]),(4,[4]),(5,[2,3,28]),(6,[2,3,5]),(7,[5,46]),(8,[4]),(9,[4])],[]⟩ Tryz.f56 = some F56 := by kernel_rfl
theorem F56_fn : FnOK2 Tryz.prog 56 (.pl F56) := .pl Tryz.func56 (by kernel_rfl) F56_ok
theorem F57_ok : prepF Tryz.prog ⟨[3,4,6,9,11,13],[(0,[2,3,4,6]),(1,[2,3,4,6,16]),(2,[6,7]),(3,[2,3,4,6,8]),(4,[2,3,4,6,8,25]),(5,[6,7]),(6,[3,6,8,9,10]),(7,[3,6,8,9,40]),(8,[6,7]),(9,[3,6,8,9,11]),(10,[3,6,8,9,11]),(11,[6,8,9,11,54,55,56]),(12,[6,8,9,11,54,55,56,57]),(13,[6,8,9,11,12,13,54,55,56]),(14,[6,8,9,11,13,54,55,56,63]),(15,[6,8,9,11,54,55,56]),(16,[6,8,9,11,54,55,56]),(17,[6,8,9,11,54,55,56]),(18,[6,7]),(1000000,[6,8,9,11,54,55,56])],[(16,[(some 11),(some 11),(some 13),none,none,none,(some 11),(some 11)]),(6,[(some 3),(some 3),none,none,none,(some 4),none,none,none,none,none,none,none,(some 9),none]),(3,[(some 3),none,none,none,none,none])]⟩ Tryz.f57 = some F57 := by kernel_rfl
theorem F57_fn : FnOK2 Tryz.prog 57 (.pl F57) := .pl Tryz.func57 (by kernel_rfl) F57_ok
theorem F58_ok : prepF Tryz.prog ⟨[2,3],[(0,[2,3]),(1,[4])],[]⟩ Tryz.f58 = some F58 := by kernel_rfl
theorem F58_fn : FnOK2 Tryz.prog 58 (.pl F58) := .pl Tryz.func58 (by kernel_rfl) F58_ok
theorem F59_ok : prepF Tryz.prog ⟨[2,3],[(0,[2,3]),(1,[2,3,15]),(2,[4]),(3,[2,3,24]),(4,[2,3,5,6]),(5,[2,3,5,34]),(6,[4]),(7,[2,3,7]),(8,[2,3,7,42]),(9,[4]),(10,[2,3,50,51]),(11,[2,3,50,51,52]),(12,[2,3,8,50,51]),(13,[2,3,8,50,51,65]),(14,[2,3,8,9,50,51]),(15,[2,3,8,9,50,51,78]),(16,[4]),(17,[2,3,10,50,51]),(18,[2,3,10,50,51,92]),(19,[4]),(20,[2,3,50,51]),(21,[4]),(1000000,[2,3,50,51])],[(17,[(some 2),(some 2),none,none,none,(some 3),(some 3),none,none,none,none,none]),(14,[(some 2),(some 2),none,none,none,(some 3),(some 3),none,none,none,none,none])]⟩ Tryz.f59 = some F59 := by kernel_rfl
theorem F59_fn : FnOK2 Tryz.prog 59 (.pl F59) := .pl Tryz.func59 (by kernel_rfl) F59_ok
theorem F64_ok : prepF Tryz.prog ⟨[],[(0,[1]),(1,[1,3]),(2,[1,3,9,10]),(3,[1,3,9,10,11]),(4,[1,3,4,9,10]),(5,[1,3,9,10]),(6,[1,3,9,10]),(7,[3]),(8,[2]),(1000000,[1,3,9,10])],[]⟩ Tryz.f64 = some F64 := by kernel_rfl
theorem F64_fn : FnOK2 Tryz.prog 64 (.pl F64) := .pl Tryz.func64 (by kernel_rfl) F64_ok
theorem F75_ok : prepF Tryz.prog ⟨[1],[(0,[1]),(1,[2])],[]⟩ Tryz.f75 = some F75 := by kernel_rfl
theorem F75_fn : FnOK2 Tryz.prog 75 (.pl F75) := .pl Tryz.func75 (by kernel_rfl) F75_ok
theorem F77_ok : prepF Tryz.prog ⟨[2,3],[(0,[2,3]),(1,[2,3,5]),(2,[2,3,5,6]),(3,[2,5]),(4,[2,3,5,20]),(5,[2,5]),(6,[5,39]),(7,[4]),(8,[4])],[]⟩ Tryz.f77 = some F77 := by kernel_rfl
theorem F77_fn : FnOK2 Tryz.prog 77 (.pl F77) := .pl Tryz.func77 (by kernel_rfl) F77_ok
theorem F78_ok : prepF Tryz.prog ⟨[],[(0,[0,1]),(1,[0,1,10]),(2,[4]),(3,[0,1,5]),(4,[0,1,5,14]),(5,[0,1,5]),(6,[0,1,5,25]),(7,[4]),(8,[4]),(1000000,[0,1,5])],[]⟩ Tryz.f78 = some F78 := by kernel_rfl
theorem F78_fn : FnOK2 Tryz.prog 78 (.pl F78) := .pl Tryz.func78 (by kernel_rfl) F78_ok
theorem F79_ok : prepF Tryz.prog ⟨[],[(0,[0,1,8]),(1,[])],[]⟩ Tryz.f79 = some F79 := by kernel_rfl
theorem F79_fn : FnOK2 Tryz.prog 79 (.pl F79) := .pl Tryz.func79 (by kernel_rfl) F79_ok
theorem F80_ok : prepF Tryz.prog ⟨[],[(0,[0]),(1,[0,10]),(2,[2,3]),(3,[0,4]),(4,[0,4]),(5,[0,4,13,14]),(6,[0,4,13,14,15]),(7,[0,4,5,13,14]),(8,[0,4,6,13,14]),(9,[0,4,6,7,13,14]),(10,[0,4,13,14]),(11,[0,4,6,7,13,14,24]),(12,[0,4,7,13,14]),(13,[0,4,13,14]),(14,[0,4,6,13,14,30]),(15,[0,4,6,13,14]),(16,[0,4,6,13,14]),(17,[0,4,13,14]),(18,[0,4,13,14]),(19,[4]),(20,[2,3]),(1000000,[0,4,13,14])],[]⟩ Tryz.f80 = some F80 := by kernel_rfl
theorem F80_fn : FnOK2 Tryz.prog 80 (.pl F80) := .pl Tryz.func80 (by kernel_rfl) F80_ok
theorem F81_ok : prepF Tryz.prog ⟨[4],[(0,[0]),(1,[4,5]),(2,[4,5,12]),(3,[2,3]),(4,[2,3])],[]⟩ Tryz.f81 = some F81 := by kernel_rfl
theorem F81_fn : FnOK2 Tryz.prog 81 (.pl F81) := .pl Tryz.func81 (by kernel_rfl) F81_ok
theorem F82_ok : prepF Tryz.prog ⟨[],[(0,[0]),(1,[2])],[]⟩ Tryz.f82 = some F82 := by kernel_rfl
theorem F82_fn : FnOK2 Tryz.prog 82 (.pl F82) := .pl Tryz.func82 (by kernel_rfl) F82_ok
theorem F83_ok : prepF Tryz.prog ⟨[],[(0,[0]),(1,[0,11]),(2,[2]),(3,[0]),(4,[3,4,5]),(5,[2])],[]⟩ Tryz.f83 = some F83 := by kernel_rfl
theorem F83_fn : FnOK2 Tryz.prog 83 (.pl F83) := .pl Tryz.func83 (by kernel_rfl) F83_ok
theorem F84_ok : prepF Tryz.prog ⟨[],[(0,[0]),(1,[0,3]),(2,[3,7,8,9]),(3,[3,7,8,9,10]),(4,[3,5,7,8,9]),(5,[3,5,7,8,9]),(6,[3,7,8,9,25]),(7,[2]),(8,[3,7,8,9]),(9,[2]),(1000000,[3,7,8,9])],[]⟩ Tryz.f84 = some F84 := by kernel_rfl
theorem F84_fn : FnOK2 Tryz.prog 84 (.pl F84) := .pl Tryz.func84 (by kernel_rfl) F84_ok
theorem F85_ok : prepF Tryz.prog ⟨[],[(0,[0,1]),(1,[4])],[]⟩ Tryz.f85 = some F85 := by kernel_rfl
theorem F85_fn : FnOK2 Tryz.prog 85 (.pl F85) := .pl Tryz.func85 (by kernel_rfl) F85_ok
theorem F86_ok : prepF Tryz.prog ⟨[],[(0,[0]),(1,[0,3]),(2,[0,3,9]),(3,[0,3,5]),(4,[0,3,5,18]),(5,[2]),(6,[0,3]),(7,[2]),(1000000,[0,3])],[]⟩ Tryz.f86 = some F86 := by kernel_rfl
theorem F86_fn : FnOK2 Tryz.prog 86 (.pl F86) := .pl Tryz.func86 (by kernel_rfl) F86_ok
theorem F87_ok : prepG Tryz.prog ⟨[],[(0,[0,1]),(1,[0,1,6]),(2,[0,1,2,3]),(3,[0,1,2,13]),(4,[0,2]),(5,[])],[]⟩ Tryz.f87 = some F87 := by kernel_rfl
theorem F87_fn : FnOK2 Tryz.prog 87 (.rc F87) := .rc Tryz.func87 (by kernel_rfl) F87_ok
theorem F88_ok : prepF Tryz.prog ⟨[],[(0,[0,1]),(1,[0,1,5]),(2,[0,1,5,32]),(3,[0,1,5]),(4,[4]),(1000000,[0,1,5])],[]⟩ Tryz.f88 = some F88 := by kernel_rfl
theorem F88_fn : FnOK2 Tryz.prog 88 (.pl F88) := .pl Tryz.func88 (by kernel_rfl) F88_ok
theorem F89_ok : prepF Tryz.prog ⟨[],[(0,[0]),(1,[2])],[]⟩ Tryz.f89 = some F89 := by kernel_rfl
theorem F89_fn : FnOK2 Tryz.prog 89 (.pl F89) := .pl Tryz.func89 (by kernel_rfl) F89_ok
theorem F90_ok : prepF Tryz.prog ⟨[],[(0,[0,1]),(1,[4])],[]⟩ Tryz.f90 = some F90 := by kernel_rfl
theorem F90_fn : FnOK2 Tryz.prog 90 (.pl F90) := .pl Tryz.func90 (by kernel_rfl) F90_ok
theorem F91_ok : prepF Tryz.prog ⟨[],[(0,[0,1,3,9]),(1,[0,1,3]),(2,[0,1]),(3,[1,24]),(4,[])],[]⟩ Tryz.f91 = some F91 := by kernel_rfl
theorem F91_fn : FnOK2 Tryz.prog 91 (.pl F91) := .pl Tryz.func91 (by kernel_rfl) F91_ok
theorem F92_ok : prepF Tryz.prog ⟨[],[(0,[0]),(1,[0,3,4,5]),(2,[0,3,4,5,21]),(3,[0,3,4]),(4,[3]),(5,[2])],[]⟩ Tryz.f92 = some F92 := by kernel_rfl
theorem F92_fn : FnOK2 Tryz.prog 92 (.pl F92) := .pl Tryz.func92 (by kernel_rfl) F92_ok
theorem F93_ok : prepF Tryz.prog ⟨[2,4,5],[(0,[1,2,4]),(1,[1,2,4,5]),(2,[1,2,4,5]),(3,[1,2,4,5]),(4,[1,2,4,5,14]),(5,[4,5]),(6,[4]),(7,[1,2,4,5]),(8,[1,2,4,5]),(9,[1,2,4,5]),(10,[1,2,4,5,40]),(11,[4,5]),(12,[4]),(13,[1,2,4,5]),(1000000,[1,2,4,5])],[(8,[(some 5),(some 5),(some 2),none,none,none,none,none,(some 5),(some 5)])]⟩ Tryz.f93 = some F93 := by kernel_rfl
theorem F93_fn : FnOK2 Tryz.prog 93 (.pl F93) := .pl Tryz.func93 (by kernel_rfl) F93_ok
theorem F94_ok : prepF Tryz.prog ⟨[2,4,5],[(0,[1,2,4]),(1,[1,2,4,5]),(2,[1,2,4,5,6]),(3,[1,2,4,5,6]),(4,[1,2,4,5,6]),(5,[1,2,4,5,6,18]),(6,[4,5]),(7,[4]),(8,[1,2,4,5,6]),(9,[1,2,4,5,6,7]),(10,[1,2,4,5,6,7,38]),(11,[1,2,4,5,6,7]),(12,[1,2,4,5,6,7,8]),(13,[1,2,4,5,6,7,8]),(14,[1,2,4,5,6,7,8,52]),(15,[1,2,4,5,6,8]),(16,[1,2,4,5,6,8]),(17,[1,2,4,5,6,8]),(18,[1,2,4,5,6,8]),(19,[1,2,4,5,6]),(20,[1,2,4,5,6]),(21,[1,2,4,5,6]),(22,[1,2,4,5,6,82]),(23,[4,5]),(24,[4]),(25,[1,2,4,5,6]),(1000000,[1,2,4,5,6])],[(20,[(some 5),(some 5),(some 2),none,none,none,none,none,(some 5),(some 5)])]⟩ Tryz.f94 = some F94 := by kernel_rfl
theorem F94_fn : FnOK2 Tryz.prog 94 (.pl F94) := .pl Tryz.func94 (by kernel_rfl) F94_ok
theorem F95_ok : prepF Tryz.prog ⟨[],[(0,[0]),(1,[2])],[]⟩ Tryz.f95 = some F95 := by kernel_rfl
theorem F95_fn : FnOK2 Tryz.prog 95 (.pl F95) := .pl Tryz.func95 (by kernel_rfl) F95_ok
theorem F96_ok : prepF Tryz.prog ⟨[],[(0,[0]),(1,[2])],[]⟩ Tryz.f96 = some F96 := by kernel_rfl
theorem F96_fn : FnOK2 Tryz.prog 96 (.pl F96) := .pl Tryz.func96 (by kernel_rfl) F96_ok
theorem F97_ok : prepF Tryz.prog ⟨[],[(0,[])],[]⟩ Tryz.f97 = some F97 := by kernel_rfl
theorem F97_fn : FnOK2 Tryz.prog 97 (.pl F97) := .pl Tryz.func97 (by kernel_rfl) F97_ok
theorem F98_ok : prepF Tryz.prog ⟨[2],[(0,[0,2]),(1,[0,2,3]),(2,[0,2,3,11]),(3,[2,3,4,5]),(4,[2,3,4,5,53]),(5,[2,4]),(6,[2]),(7,[0,2,3,59]),(8,[0,2,3,6]),(9,[0,2,3,6,84]),(10,[0,2,3,6,84,85]),(11,[2]),(12,[0,2,3,6,84,88]),(13,[0,2,3,6,88]),(14,[2]),(15,[0,2]),(16,[2]),(17,[2])],[]⟩ Tryz.f98 = some F98 := by kernel_rfl
theorem F98_fn : FnOK2 Tryz.prog 98 (.pl F98) := .pl Tryz.func98 (by kernel_rfl) F98_ok
theorem F99_ok : prepF Tryz.prog ⟨[],[(0,[0,1]),(1,[0,1,7,8]),(2,[0,1,7,8,9]),(3,[0,1,5,7,8]),(4,[0,1,5,7,8,16]),(5,[4]),(6,[0,1,7,8]),(7,[4]),(1000000,[0,1,7,8])],[]⟩ Tryz.f99 = some F99 := by kernel_rfl
theorem F99_fn : FnOK2 Tryz.prog 99 (.pl F99) := .pl Tryz.func99 (by kernel_rfl) F99_ok
theorem F100_ok : prepF Tryz.prog ⟨[],[(0,[0,1]),(1,[0,1,10]),(2,[4]),(3,[0,1,12,13]),(4,[0,1,12,13,14]),(5,[0,1,5,12,13]),(6,[0,1,12,13,24]),(7,[4]),(8,[0,1,12,13]),(9,[4]),(1000000,[0,1,12,13])],[]⟩ Tryz.f100 = some F100 := by kernel_rfl
theorem F100_fn : FnOK2 Tryz.prog 100 (.pl F100) := .pl Tryz.func100 (by kernel_rfl) F100_ok
theorem F101_ok : prepF Tryz.prog ⟨[8,9],[(0,[0,1,2]),(1,[0,1,2,14]),(2,[6]),(3,[1,2,15,16,17]),(4,[1,2,15,16,17,18]),(5,[1,2,7,8,15,16,17]),(6,[1,2,8,9,15,16,17]),(7,[1,2,15,16,17,30]),(8,[6]),(9,[1,2,15,16,17]),(10,[6]),(1000000,[1,2,15,16,17])],[]⟩ Tryz.f101 = some F101 := by kernel_rfl
theorem F101_fn : FnOK2 Tryz.prog 101 (.pl F101) := .pl Tryz.func101 (by kernel_rfl) F101_ok
theorem F102_ok : prepF Tryz.prog ⟨[],[(0,[0]),(1,[2])],[]⟩ Tryz.f102 = some F102 := by kernel_rfl
theorem F102_fn : FnOK2 Tryz.prog 102 (.pl F102) := .pl Tryz.func102 (by kernel_rfl) F102_ok
theorem F103_ok : prepF Tryz.prog ⟨[6,8],[(0,[0,1]),(1,[1,6,7]),(2,[1,6,7,15]),(3,[4,5]),(4,[6,7,8]),(5,[6,7,8,23]),(6,[4,5]),(7,[6,8,25]),(8,[4,5]),(9,[6,8,35]),(10,[4,5]),(11,[6,8,38]),(12,[4,5]),(13,[4,5])],[]⟩ Tryz.f103 = some F103 := by kernel_rfl
theorem F103_fn : FnOK2 Tryz.prog 103 (.pl F103) := .pl Tryz.func103 (by kernel_rfl) F103_ok
theorem F104_ok : prepF Tryz.prog ⟨[],[(0,[0,1]),(1,[4])],[]⟩ Tryz.f104 = some F104 := by kernel_rfl
theorem F104_fn : FnOK2 Tryz.prog 104 (.pl F104) := .pl Tryz.func104 (by kernel_rfl) F104_ok
theorem F105_ok : prepF Tryz.prog ⟨[],[(0,[0,1]),(1,[0,1,5]),(2,[0,1,5,9]),(3,[0,1,5]),(4,[0,1,5,17]),(5,[4]),(6,[4]),(1000000,[0,1,5])],[]⟩ Tryz.f105 = some F105 := by kernel_rfl
theorem F105_fn : FnOK2 Tryz.prog 105 (.pl F105) := .pl Tryz.func105 (by kernel_rfl) F105_ok
theorem F112_ok : prepF Tryz.prog ⟨[],[(0,[])],[]⟩ Tryz.f112 = some F112 := by kernel_rfl
theorem F112_fn : FnOK2 Tryz.prog 112 (.pl F112) := .pl Tryz.func112 (by kernel_rfl) F112_ok
theorem F113_ok : prepF Tryz.prog ⟨[],[(0,[0,1,2]),(1,[5])],[]⟩ Tryz.f113 = some F113 := by kernel_rfl
theorem F113_fn : FnOK2 Tryz.prog 113 (.pl F113) := .pl Tryz.func113 (by kernel_rfl) F113_ok
theorem F128_ok : prepF Tryz.prog ⟨[],[(0,[0,1]),(1,[0,1]),(2,[1]),(3,[4,5])],[]⟩ Tryz.f128 = some F128 := by kernel_rfl
theorem F128_fn : FnOK2 Tryz.prog 128 (.pl F128) := .pl Tryz.func128 (by kernel_rfl) F128_ok
theorem F129_ok : prepF Tryz.prog ⟨[],[(0,[0,1]),(1,[0,1]),(2,[]),(3,[4])],[]⟩ Tryz.f129 = some F129 := by kernel_rfl
theorem F129_fn : FnOK2 Tryz.prog 129 (.pl F129) := .pl Tryz.func129 (by kernel_rfl) F129_ok
theorem F130_ok : prepF Tryz.prog ⟨[],[(0,[0]),(1,[0,3]),(2,[0,3,4]),(3,[0,3,4]),(4,[2]),(5,[3,8]),(6,[2]),(7,[3,10]),(8,[2]),(9,[3,12]),(10,[2]),(11,[3,14]),(12,[2]),(13,[16]),(14,[2]),(15,[2])],[]⟩ Tryz.f130 = some F130 := by kernel_rfl
theorem F130_fn : FnOK2 Tryz.prog 130 (.pl F130) := .pl Tryz.func130 (by kernel_rfl) F130_ok
theorem F131_ok : prepF Tryz.prog ⟨[],[(0,[0]),(1,[2])],[]⟩ Tryz.f131 = some F131 := by kernel_rfl
theorem F131_fn : FnOK2 Tryz.prog 131 (.pl F131) := .pl Tryz.func131 (by kernel_rfl) F131_ok
theorem F132_ok : prepF Tryz.prog ⟨[2],[(0,[0,2]),(1,[0,2,4,5,6,7,8]),(2,[0,2,4,5,6,7,21]),(3,[2,3]),(4,[2,4,5,6,7,25]),(5,[2,3]),(6,[2,4,5,6,8,9]),(7,[2,4,5,6,9,33]),(8,[2,3]),(9,[2,4,6,9,10]),(10,[2,4,9,10]),(11,[2,4,9,10,11]),(12,[2,4,9,11]),(13,[2,4,9,11,53]),(14,[2,3]),(15,[2,3])],[]⟩ Tryz.f132 = some F132 := by kernel_rfl
theorem F132_fn : FnOK2 Tryz.prog 132 (.pl F132) := .pl Tryz.func132 (by kernel_rfl) F132_ok
theorem F133_ok : prepF Tryz.prog ⟨[1],[(0,[1]),(1,[1,4]),(2,[1,4,9]),(3,[1,4,9]),(4,[1,4,9]),(5,[2,3]),(6,[1,4,42]),(7,[2,3]),(8,[1,51]),(9,[2,3]),(10,[1,5]),(11,[1,5,57]),(12,[1,5]),(13,[1,5,62]),(14,[5]),(15,[5,71]),(16,[2,3]),(17,[2,3])],[]⟩ Tryz.f133 = some F133 := by kernel_rfl
theorem F133_fn : FnOK2 Tryz.prog 133 (.pl F133) := .pl Tryz.func133 (by kernel_rfl) F133_ok
theorem F134_ok : prepF Tryz.prog ⟨[],[(0,[0]),(1,[0,33]),(2,[2]),(3,[2])],[]⟩ Tryz.f134 = some F134 := by kernel_rfl
theorem F134_fn : FnOK2 Tryz.prog 134 (.pl F134) := .pl Tryz.func134 (by kernel_rfl) F134_ok
theorem F135_ok : prepF Tryz.prog ⟨[],[(0,[0]),(1,[0,34]),(2,[2]),(3,[0,37]),(4,[2]),(5,[0,3]),(6,[2])],[]⟩ Tryz.f135 = some F135 := by kernel_rfl
theorem F135_fn : FnOK2 Tryz.prog 135 (.pl F135) := .pl Tryz.func135 (by kernel_rfl) F135_ok
theorem F136_ok : prepF Tryz.prog ⟨[],[(0,[0]),(1,[0,6]),(2,[2,3]),(3,[0,30]),(4,[2,3]),(5,[0,4]),(6,[0,4,51]),(7,[2,3]),(8,[2,3])],[]⟩ Tryz.f136 = some F136 := by kernel_rfl
theorem F136_fn : FnOK2 Tryz.prog 136 (.pl F136) := .pl Tryz.func136 (by kernel_rfl) F136_ok
theorem F137_ok : prepF Tryz.prog ⟨[],[(0,[0,1]),(1,[4,5,6])],[]⟩ Tryz.f137 = some F137 := by kernel_rfl
theorem F137_fn : FnOK2 Tryz.prog 137 (.pl F137) := .pl Tryz.func137 (by kernel_rfl) F137_ok
theorem F138_ok : prepF Tryz.prog ⟨[],[(0,[0]),(1,[0,7]),(2,[2,3]),(3,[0,2,3,4]),(4,[0,2,3,4,22]),(5,[2,3]),(6,[0,2,3,4,5]),(7,[0,2,3,4,5,25]),(8,[0,2,3,4,5]),(9,[0,2,3,4,5,32]),(10,[2,3]),(11,[0,2,3,4,5]),(12,[2,3,48]),(13,[2,3]),(14,[2,3]),(1000000,[0,2,3,4,5])],[]⟩ Tryz.f138 = some F138 := by kernel_rfl
theorem F138_fn : FnOK2 Tryz.prog 138 (.pl F138) := .pl Tryz.func138 (by kernel_rfl) F138_ok
theorem F139_ok : prepF Tryz.prog ⟨[],[(0,[0]),(1,[0,11]),(2,[2,3,4]),(3,[0,15]),(4,[2,3,4]),(5,[0,5]),(6,[0,5,6]),(7,[0,5,6,20]),(8,[0,5,6,7]),(9,[0,5,6]),(10,[0,5,6]),(11,[0,5,6,7,30]),(12,[2,3,4]),(13,[0,5,6,7,37]),(14,[2,3,4]),(15,[0,5,6,7,42]),(16,[0,5,6,8,9]),(17,[0,5,6,8,9,54]),(18,[2,3,4]),(19,[0,5,6,9]),(20,[0,5,6]),(21,[2,3,4]),(1000000,[0,5,6])],[]⟩ Tryz.f139 = some F139 := by kernel_rfl
theorem F139_fn : FnOK2 Tryz.prog 139 (.pl F139) := .pl Tryz.func139 (by kernel_rfl) F139_ok
theorem F140_ok : prepF Tryz.prog ⟨[],[(0,[0,7]),(1,[0]),(2,[])],[]⟩ Tryz.f140 = some F140 := by kernel_rfl
theorem F140_fn : FnOK2 Tryz.prog 140 (.pl F140) := .pl Tryz.func140 (by kernel_rfl) F140_ok
theorem F141_ok : prepF Tryz.prog ⟨[],[(0,[0]),(1,[2])],[]⟩ Tryz.f141 = some F141 := by kernel_rfl
theorem F141_fn : FnOK2 Tryz.prog 141 (.pl F141) := .pl Tryz.func141 (by kernel_rfl) F141_ok
theorem F142_ok : prepF Tryz.prog ⟨[],[(0,[0]),(1,[2])],[]⟩ Tryz.f142 = some F142 := by kernel_rfl
theorem F142_fn : FnOK2 Tryz.prog 142 (.pl F142) := .pl Tryz.func142 (by kernel_rfl) F142_ok
theorem F143_ok : prepF Tryz.prog ⟨[2],[(0,[0,2]),(1,[0,2,5]),(2,[0,2,5,12]),(3,[2,3]),(4,[2,3])],[]⟩ Tryz.f143 = some F143 := by kernel_rfl
theorem F143_fn : FnOK2 Tryz.prog 143 (.pl F143) := .pl Tryz.func143 (by kernel_rfl) F143_ok
theorem F144_ok : prepF Tryz.prog ⟨[2,3],[(0,[2,3]),(1,[2,3,5,6]),(2,[2,3,5,6,13]),(3,[4]),(4,[2,3,5,6,25]),(5,[4]),(6,[4])],[(1,[(some 2),(some 2),none,(some 3),(some 3),none,none,none])]⟩ Tryz.f144 = some F144 := by kernel_rfl
theorem F144_fn : FnOK2 Tryz.prog 144 (.pl F144) := .pl Tryz.func144 (by kernel_rfl) F144_ok
theorem F145_ok : prepF Tryz.prog ⟨[],[(0,[0,1]),(1,[4])],[]⟩ Tryz.f145 = some F145 := by kernel_rfl
theorem F145_fn : FnOK2 Tryz.prog 145 (.pl F145) := .pl Tryz.func145 (by kernel_rfl) F145_ok
theorem F150_ok : prepF Tryz.prog ⟨[],[(0,[0,1,2,6]),(1,[0,1,2,6,7,8]),(2,[0,1,2,6,7,8,13]),(3,[0,1,2,6,8]),(4,[0,1,2,6,7,8]),(5,[0,1,2,6,7,8]),(6,[0,1,2,6]),(7,[0,1,2,6,30]),(8,[0,1,2,6,7,8]),(9,[0,1,2,6,7,8,35]),(10,[0,1,2,6,8]),(11,[0,1,2,6,7,8]),(12,[0,1,2,6,7,8]),(13,[0,1,2,6,7,9]),(14,[0,1,2,6,7,9,54]),(15,[0,1,2,6]),(16,[0,1,2,6]),(1000000,[0,1,2,6,7,8]),(1000002,[0,1,2,6]),(1000004,[0,1,2,6,7,8])],[]⟩ Tryz.f150 = some F150 := by kernel_rfl
theorem F150_fn : FnOK2 Tryz.prog 150 (.pl F150) := .pl Tryz.func150 (by kernel_rfl) F150_ok
theorem F159_ok : prepF Tryz.prog ⟨[],[(0,[0,6]),(1,[]),(2,[19])],[]⟩ Tryz.f159 = some F159 := by kernel_rfl
theorem F159_fn : FnOK2 Tryz.prog 159 (.pl F159) := .pl Tryz.func159 (by kernel_rfl) F159_ok
theorem F160_ok : prepF Tryz.prog ⟨[],[(0,[0,4]),(1,[4,7]),(2,[2,4,7]),(3,[2,4,7,13]),(4,[2,4,7]),(5,[2,4,7,8]),(6,[2,4,7,8,28]),(7,[2,3,4,5,6]),(8,[2,3,4,7]),(9,[2,3,4,7,36]),(10,[2,3,7,8]),(11,[2,3,7,8,41]),(12,[2,3,4,5,6]),(13,[2,3,4,7]),(14,[2,3,4,7,51]),(15,[2,3,4,5,6]),(16,[2,3,4,7,62]),(17,[2,3,4,5,6]),(18,[2,3,4,5]),(19,[2,3,4,5,9]),(20,[2,3,4,5,9,69]),(21,[2,3,4,5,9]),(22,[2,3,4,5,80]),(23,[2,3,4,5,6]),(24,[2,3,4,5,6])],[]⟩ Tryz.f160 = some F160 := by kernel_rfl
theorem F160_fn : FnOK2 Tryz.prog 160 (.pl F160) := .pl Tryz.func160 (by kernel_rfl) F160_ok
theorem F161_ok : prepF Tryz.prog ⟨[],[(0,[0]),(1,[0,4]),(2,[0,4]),(3,[0,4,14]),(4,[2,3]),(5,[4,5]),(6,[5,21]),(7,[2,3]),(8,[2,3])],[]⟩ Tryz.f161 = some F161 := by kernel_rfl
theorem F161_fn : FnOK2 Tryz.prog 161 (.pl F161) := .pl Tryz.func161 (by kernel_rfl) F161_ok
theorem F162_ok : prepF Tryz.prog ⟨[],[(0,[0,1]),(1,[0,1,12]),(2,[4]),(3,[0,1,21]),(4,[4]),(5,[0,1,5,6]),(6,[0,1,5,31]),(7,[4]),(8,[4])],[]⟩ Tryz.f162 = some F162 := by kernel_rfl
theorem F162_fn : FnOK2 Tryz.prog 162 (.pl F162) := .pl Tryz.func162 (by kernel_rfl) F162_ok
theorem F163_ok : prepF Tryz.prog ⟨[],[(0,[0,1]),(1,[0,1,12]),(2,[4]),(3,[0,1,21]),(4,[4]),(5,[0,1,5,6]),(6,[0,1,5,31]),(7,[4]),(8,[4])],[]⟩ Tryz.f163 = some F163 := by kernel_rfl
theorem F163_fn : FnOK2 Tryz.prog 163 (.pl F163) := .pl Tryz.func163 (by kernel_rfl) F163_ok
theorem F164_ok : prepF Tryz.prog ⟨[],[(0,[0]),(1,[0,3]),(2,[0,3,13]),(3,[0,3]),(4,[2]),(1000000,[0,3])],[]⟩ Tryz.f164 = some F164 := by kernel_rfl
theorem F164_fn : FnOK2 Tryz.prog 164 (.pl F164) := .pl Tryz.func164 (by kernel_rfl) F164_ok
theorem F165_ok : prepF Tryz.prog ⟨[],[(0,[0]),(1,[2])],[]⟩ Tryz.f165 = some F165 := by kernel_rfl
theorem F165_fn : FnOK2 Tryz.prog 165 (.pl F165) := .pl Tryz.func165 (by kernel_rfl) F165_ok
theorem F166_ok : prepF Tryz.prog ⟨[],[(0,[0]),(1,[0,25]),(2,[2]),(3,[2])],[]⟩ Tryz.f166 = some F166 := by kernel_rfl
theorem F166_fn : FnOK2 Tryz.prog 166 (.pl F166) := .pl Tryz.func166 (by kernel_rfl) F166_ok
theorem F167_ok : prepF Tryz.prog ⟨[],[(0,[0,1,2]),(1,[6])],[]⟩ Tryz.f167 = some F167 := by kernel_rfl
theorem F167_fn : FnOK2 Tryz.prog 167 (.pl F167) := .pl Tryz.func167 (by kernel_rfl) F167_ok
theorem F168_ok : prepF Tryz.prog ⟨[],[(0,[0,1]),(1,[0,5]),(2,[0,5,6]),(3,[0,5,6]),(4,[0,5,6]),(5,[0,5,6]),(6,[4]),(7,[0,11]),(8,[25]),(9,[4]),(10,[4]),(11,[4])],[]⟩ Tryz.f168 = some F168 := by kernel_rfl
theorem F168_fn : FnOK2 Tryz.prog 168 (.pl F168) := .pl Tryz.func168 (by kernel_rfl) F168_ok
theorem F169_ok : prepF Tryz.prog ⟨[],[(0,[0,1]),(1,[0,1,12]),(2,[4]),(3,[0,1,21]),(4,[4]),(5,[0,1,5,6]),(6,[0,1,5,34]),(7,[4]),(8,[4])],[]⟩ Tryz.f169 = some F169 := by kernel_rfl
theorem F169_fn : FnOK2 Tryz.prog 169 (.pl F169) := .pl Tryz.func169 (by kernel_rfl) F169_ok
theorem F170_ok : prepF Tryz.prog ⟨[],[(0,[0,1]),(1,[4])],[]⟩ Tryz.f170 = some F170 := by kernel_rfl
theorem F170_fn : FnOK2 Tryz.prog 170 (.pl F170) := .pl Tryz.func170 (by kernel_rfl) F170_ok
theorem F171_ok : prepF Tryz.prog ⟨[],[(0,[0,1]),(1,[0,1,7]),(2,[0,1,7,12]),(3,[4,5,6]),(4,[4,5,6])],[]⟩ Tryz.f171 = some F171 := by kernel_rfl
theorem F171_fn : FnOK2 Tryz.prog 171 (.pl F171) := .pl Tryz.func171 (by kernel_rfl) F171_ok
theorem F172_ok : prepF Tryz.prog ⟨[],[(0,[0]),(1,[0,5]),(2,[2,3,4]),(3,[0,11]),(4,[2,3,4]),(5,[0,18]),(6,[2,3,4]),(7,[0,25]),(8,[2,3,4]),(9,[2,3,4])],[]⟩ Tryz.f172 = some F172 := by kernel_rfl
theorem F172_fn : FnOK2 Tryz.prog 172 (.pl F172) := .pl Tryz.func172 (by kernel_rfl) F172_ok
theorem F173_ok : prepF Tryz.prog ⟨[],[(0,[0]),(1,[2])],[]⟩ Tryz.f173 = some F173 := by kernel_rfl
theorem F173_fn : FnOK2 Tryz.prog 173 (.pl F173) := .pl Tryz.func173 (by kernel_rfl) F173_ok
theorem F174_ok : prepF Tryz.prog ⟨[],[(0,[0]),(1,[0,5]),(2,[2,3]),(3,[0,7]),(4,[0,7,8]),(5,[0,7,8]),(6,[0,7,8]),(7,[2,3]),(8,[0,7,15]),(9,[2,3]),(10,[0,7,17]),(11,[2,3]),(12,[0,7,19]),(13,[2,3]),(14,[0,7,21]),(15,[2,3]),(16,[0,7,23]),(17,[2,3]),(18,[0,25]),(19,[2,3]),(20,[2,3])],[]⟩ Tryz.f174 = some F174 := by kernel_rfl
theorem F174_fn : FnOK2 Tryz.prog 174 (.pl F174) := .pl Tryz.func174 (by kernel_rfl) F174_ok
theorem F175_ok : prepF Tryz.prog ⟨[],[(0,[0,3]),(1,[0,3,5]),(2,[0,3,5,7]),(3,[4]),(4,[0,3,5,15]),(5,[4]),(6,[0,3,5,27]),(7,[4]),(8,[4])],[]⟩ Tryz.f175 = some F175 := by kernel_rfl
theorem F175_fn : FnOK2 Tryz.prog 175 (.pl F175) := .pl Tryz.func175 (by kernel_rfl) F175_ok
theorem F176_ok : prepF Tryz.prog ⟨[],[(0,[0]),(1,[2])],[]⟩ Tryz.f176 = some F176 := by kernel_rfl
theorem F176_fn : FnOK2 Tryz.prog 176 (.pl F176) := .pl Tryz.func176 (by kernel_rfl) F176_ok
theorem F180_ok : prepF Tryz.prog ⟨[],[(0,[0,1,2,3,8]),(1,[0,1,2,3,8,14]),(2,[0,1,2,3,8]),(3,[0,1,2,3,8,9]),(4,[0,1,2,3,8,9,34]),(5,[0,1,2,3,8,9]),(6,[0,1,2,3,8,9]),(1000000,[0,1,2,3,8]),(1000002,[0,1,2,3,8,9])],[]⟩ Tryz.f180 = some F180 := by kernel_rfl
theorem F180_fn : FnOK2 Tryz.prog 180 (.pl F180) := .pl Tryz.func180 (by kernel_rfl) F180_ok
theorem F181_ok : prepF Tryz.prog ⟨[],[(0,[0,1,2,3,4,28]),(1,[0,1,3,4,10]),(2,[0,1,4,10,11]),(3,[0,1,4,10,11,33]),(4,[0,1,4,10,11,12]),(5,[0,1,4,10,11,12,50]),(6,[0,1,4,10,11]),(7,[0,1,4,10,11]),(8,[0,10,13]),(9,[0,10,13,58]),(10,[0,10,13]),(11,[0,10,13]),(12,[0,1,2,3,4,80]),(13,[0,2,4,14]),(14,[0,2,4,14,15]),(15,[0,2,4,14,15,85]),(16,[0,2,4,14,15,16]),(17,[0,2,4,14,15,16,103]),(18,[0,2,4,14,15]),(19,[0,2,4,14,15]),(20,[0,14,17]),(21,[0,14,17,110]),(22,[0,14,17]),(23,[0,14,17]),(24,[0,1,2,3,4,18]),(25,[0,1,2,3,4,18,19]),(26,[0,1,2,3,4,18,19]),(27,[0,1,2,3,4,18,19,140]),(28,[0,1,2,3,4,18,19,20]),(29,[0,1,2,3,4,18,19,20,21]),(30,[0,1,2,3,4,18,19,20]),(31,[0,1,2,3,4,18,19,20,21]),(32,[0,1,2,3,4,18,19,20,21,22]),(33,[0,1,2,3,4,18,19,20,21,22,151]),(34,[0,1,2,3,4,18,19,20,21,22,23]),(35,[0,1,2,3,4,18,19,20,21,22,23,171]),(36,[0,1,2,3,4,18,19,20,21,22]),(37,[0,1,2,3,4,18,19,20,21,22]),(38,[0,1,2,3,4,18,20,24]),(39,[0,1,2,3,4,18,20,24,185]),(40,[0,1,3,4,18,20,24]),(41,[0,1,3,4,18,20,24,199]),(42,[0,3,4,18,24]),(43,[0,3,4,18,24,213]),(44,[]),(1000000,[0,1,4,10,11]),(1000002,[0,10,13]),(1000004,[0,2,4,14,15]),(1000006,[0,14,17]),(1000008,[0,1,2,3,4,18,19,20,21,22])],[]⟩ Tryz.f181 = some F181 := by kernel_rfl
theorem F181_fn : FnOK2 Tryz.prog 181 (.pl F181) := .pl Tryz.func181 (by kernel_rfl) F181_ok
theorem F185_ok : prepF Tryz.prog ⟨[],[(0,[0,1]),(1,[4])],[]⟩ Tryz.f185 = some F185 := by kernel_rfl
theorem F185_fn : FnOK2 Tryz.prog 185 (.pl F185) := .pl Tryz.func185 (by kernel_rfl) F185_ok
theorem F186_ok : prepF Tryz.prog ⟨[],[(0,[0,1]),(1,[4])],[]⟩ Tryz.f186 = some F186 := by kernel_rfl
theorem F186_fn : FnOK2 Tryz.prog 186 (.pl F186) := .pl Tryz.func186 (by kernel_rfl) F186_ok
theorem F187_ok : prepF Tryz.prog ⟨[],[(0,[0]),(1,[0,4,5]),(2,[0,4,5,12]),(3,[2,3]),(4,[2,3])],[]⟩ Tryz.f187 = some F187 := by kernel_rfl
theorem F187_fn : FnOK2 Tryz.prog 187 (.pl F187) := .pl Tryz.func187 (by kernel_rfl) F187_ok
theorem F188_ok : prepF Tryz.prog ⟨[],[(0,[0,1]),(1,[0,1,13]),(2,[0,1]),(3,[4]),(1000000,[0,1])],[]⟩ Tryz.f188 = some F188 := by kernel_rfl
theorem F188_fn : FnOK2 Tryz.prog 188 (.pl F188) := .pl Tryz.func188 (by kernel_rfl) F188_ok
theorem F189_ok : prepF Tryz.prog ⟨[2],[(0,[0,2]),(1,[0,2,4]),(2,[0,2,4,9]),(3,[0,2,4]),(4,[0,2,4,5]),(5,[0,2,4,5,16]),(6,[2,3]),(7,[0,2,4]),(8,[2,3]),(1000000,[0,2,4])],[]⟩ Tryz.f189 = some F189 := by kernel_rfl
theorem F189_fn : FnOK2 Tryz.prog 189 (.pl F189) := .pl Tryz.func189 (by kernel_rfl) F189_ok
theorem F190_ok : prepF Tryz.prog ⟨[],[(0,[0,1]),(1,[0,1,7]),(2,[0,1,12]),(3,[0,1]),(4,[4]),(1000000,[0,1])],[]⟩ Tryz.f190 = some F190 := by kernel_rfl
theorem F190_fn : FnOK2 Tryz.prog 190 (.pl F190) := .pl Tryz.func190 (by kernel_rfl) F190_ok
theorem F191_ok : prepF Tryz.prog ⟨[],[(0,[0,1]),(1,[0,1,9]),(2,[0,1,5,6]),(3,[0,1,6,18]),(4,[0,1]),(5,[4]),(1000000,[0,1])],[]⟩ Tryz.f191 = some F191 := by kernel_rfl
theorem F191_fn : FnOK2 Tryz.prog 191 (.pl F191) := .pl Tryz.func191 (by kernel_rfl) F191_ok
theorem F192_ok : prepF Tryz.prog ⟨[],[(0,[0,1]),(1,[0,1,16]),(2,[0,1]),(3,[4]),(1000000,[0,1])],[]⟩ Tryz.f192 = some F192 := by kernel_rfl
theorem F192_fn : FnOK2 Tryz.prog 192 (.pl F192) := .pl Tryz.func192 (by kernel_rfl) F192_ok
theorem F193_ok : prepF Tryz.prog ⟨[],[(0,[0,1]),(1,[0,1,7]),(2,[0,1,15]),(3,[0,1]),(4,[4]),(1000000,[0,1])],[]⟩ Tryz.f193 = some F193 := by kernel_rfl
theorem F193_fn : FnOK2 Tryz.prog 193 (.pl F193) := .pl Tryz.func193 (by kernel_rfl) F193_ok
theorem F194_ok : prepF Tryz.prog ⟨[],[(0,[0,1]),(1,[0,1,9]),(2,[0,1,5,6]),(3,[0,1,5,6,17]),(4,[0,1,5,6]),(5,[0,1,6,26]),(6,[0,1]),(7,[4]),(1000000,[0,1])],[]⟩ Tryz.f194 = some F194 := by kernel_rfl
theorem F194_fn : FnOK2 Tryz.prog 194 (.pl F194) := .pl Tryz.func194 (by kernel_rfl) F194_ok
theorem F195_ok : prepF Tryz.prog ⟨[],[(0,[0]),(1,[2])],[]⟩ Tryz.f195 = some F195 := by kernel_rfl
theorem F195_fn : FnOK2 Tryz.prog 195 (.pl F195) := .pl Tryz.func195 (by kernel_rfl) F195_ok
theorem F196_ok : prepF Tryz.prog ⟨[],[(0,[0]),(1,[2])],[]⟩ Tryz.f196 = some F196 := by kernel_rfl
theorem F196_fn : FnOK2 Tryz.prog 196 (.pl F196) := .pl Tryz.func196 (by kernel_rfl) F196_ok
theorem F197_ok : prepF Tryz.prog ⟨[],[(0,[0,1]),(1,[4])],[]⟩ Tryz.f197 = some F197 := by kernel_rfl
theorem F197_fn : FnOK2 Tryz.prog 197 (.pl F197) := .pl Tryz.func197 (by kernel_rfl) F197_ok
theorem F198_ok : prepF Tryz.prog ⟨[],[(0,[0,1]),(1,[0,1,5]),(2,[0,1,5,16]),(3,[4]),(4,[0,1,5,24]),(5,[4]),(6,[0,1,5,31]),(7,[4]),(8,[0,1,5,36]),(9,[4]),(10,[0,1,5,6]),(11,[0,1,5,6,7]),(12,[0,1,5,6,7,8]),(13,[0,1,5,6,7,8,9]),(14,[0,1,5,6,7,8,9,10]),(15,[0,1,5,6,7,8,9,10,59]),(16,[0,1,5,6,7,8,9,10,64]),(17,[0,1,5,6,7,8,9,10,11]),(18,[0,1,5,6,7,8,9,10,11,73]),(19,[4]),(20,[0,1,5,6,7,8,9,10]),(21,[0,1,5,6,7,8,9,10,93]),(22,[4]),(23,[0,1,5,6,7,8,9,10]),(24,[0,1,5,6,7,8,9,10]),(25,[0,1,5,6,7,8,9,10,107]),(26,[8,12]),(27,[8,12,114]),(28,[4]),(29,[4]),(30,[0,1,5,6,7,8,9,10,132]),(31,[8,13]),(32,[8,13,139]),(33,[4]),(34,[4]),(35,[4]),(1000001,[0,1,5,6,7,8,9,10])],[]⟩ Tryz.f198 = some F198 := by kernel_rfl
theorem F198_fn : FnOK2 Tryz.prog 198 (.pl F198) := .pl Tryz.func198 (by kernel_rfl) F198_ok
theorem F199_ok : prepF Tryz.prog ⟨[],[(0,[0]),(1,[0,4]),(2,[0,4,14]),(3,[4,16]),(4,[2,3]),(5,[2,3]),(6,[0,4,25]),(7,[2,3]),(8,[4,5]),(9,[4,5,34]),(10,[2,3]),(11,[2,3])],[]⟩ Tryz.f199 = some F199 := by kernel_rfl
theorem F199_fn : FnOK2 Tryz.prog 199 (.pl F199) := .pl Tryz.func199 (by kernel_rfl) F199_ok
theorem F200_ok : prepF Tryz.prog ⟨[],[(0,[0,1]),(1,[3])],[]⟩ Tryz.f200 = some F200 := by kernel_rfl
theorem F200_fn : FnOK2 Tryz.prog 200 (.pl F200) := .pl Tryz.func200 (by kernel_rfl) F200_ok
theorem F201_ok : prepF Tryz.prog ⟨[],[(0,[0,2,3,4,10]),(1,[0,2,4,10,11]),(2,[0,2,4,10,11,20]),(3,[0,2,4,10,11,23]),(4,[0,2,4,10,11]),(5,[0,2,4,10,11]),(6,[0,2,4,10,11]),(7,[0,2,4,10,11]),(8,[]),(1000000,[0,2,4,10,11])],[]⟩ Tryz.f201 = some F201 := by kernel_rfl
theorem F201_fn : FnOK2 Tryz.prog 201 (.pl F201) := .pl Tryz.func201 (by kernel_rfl) F201_ok
theorem F204_ok : prepF Tryz.prog ⟨[],[(0,[0,1]),(1,[4])],[]⟩ Tryz.f204 = some F204 := by kernel_rfl
theorem F204_fn : FnOK2 Tryz.prog 204 (.pl F204) := .pl Tryz.func204 (by kernel_rfl) F204_ok
theorem F205_ok : prepF Tryz.prog ⟨[],[(0,[0,1]),(1,[0,1,7]),(2,[4]),(3,[4])],[]⟩ Tryz.f205 = some F205 := by kernel_rfl
theorem F205_fn : FnOK2 Tryz.prog 205 (.pl F205) := .pl Tryz.func205 (by kernel_rfl) F205_ok
theorem F206_ok : prepF Tryz.prog ⟨[],[(0,[0]),(1,[0,4]),(2,[0,30]),(3,[0,5]),(4,[0,5,39]),(5,[0,5]),(6,[0,5,44]),(7,[2,3]),(8,[0,5,6]),(9,[5,6,47,48,49]),(10,[5,6,47,48,49,50]),(11,[5,6,8,47,48,49]),(12,[5,6,8,47,48,49]),(13,[5,6,8,47,48,49,56]),(14,[2,3]),(15,[5,6,47,48,49]),(16,[5,6,47,48,49]),(17,[6,66]),(18,[6]),(19,[2,3]),(20,[9,10]),(21,[2,3]),(1000000,[5,6,47,48,49])],[]⟩ Tryz.f206 = some F206 := by kernel_rfl
theorem F206_fn : FnOK2 Tryz.prog 206 (.pl F206) := .pl Tryz.func206 (by kernel_rfl) F206_ok
theorem F207_ok : prepF Tryz.prog ⟨[],[(0,[0,1,2,3,4]),(1,[0,1,2,3,4,11]),(2,[0,1,2,3,4,11,12]),(3,[10]),(4,[0,1,2,3,4,11,19]),(5,[10]),(6,[0,1,2,3,4,11,26]),(7,[10]),(8,[0,1,3,4,34]),(9,[10]),(10,[10])],[]⟩ Tryz.f207 = some F207 := by kernel_rfl
theorem F207_fn : FnOK2 Tryz.prog 207 (.pl F207) := .pl Tryz.func207 (by kernel_rfl) F207_ok
theorem F208_ok : prepF Tryz.prog ⟨[],[(0,[0,1]),(1,[4])],[]⟩ Tryz.f208 = some F208 := by kernel_rfl
theorem F208_fn : FnOK2 Tryz.prog 208 (.pl F208) := .pl Tryz.func208 (by kernel_rfl) F208_ok
theorem F209_ok : prepF Tryz.prog ⟨[],[(0,[0]),(1,[0,10]),(2,[2,3]),(3,[2,3])],[]⟩ Tryz.f209 = some F209 := by kernel_rfl
theorem F209_fn : FnOK2 Tryz.prog 209 (.pl F209) := .pl Tryz.func209 (by kernel_rfl) F209_ok
theorem F210_ok : prepF Tryz.prog ⟨[],[(0,[0,1]),(1,[4])],[]⟩ Tryz.f210 = some F210 := by kernel_rfl
theorem F210_fn : FnOK2 Tryz.prog 210 (.pl F210) := .pl Tryz.func210 (by kernel_rfl) F210_ok
theorem F211_ok : prepF Tryz.prog ⟨[],[(0,[0]),(1,[0,4]),(2,[0,4,10]),(3,[2,3]),(4,[0,4,5]),(5,[0,2,4,5]),(6,[0,2,4,5,18]),(7,[2,3]),(8,[0,4,5,6]),(9,[0,4,5,6]),(10,[0,4,5,6,27]),(11,[0,4,5,6]),(12,[0,4,5,6,33]),(13,[0,4,5,35]),(14,[0,4,5]),(15,[2,3,4,5]),(16,[2,3,48]),(17,[2,3]),(18,[2,3]),(1000000,[0,4,5,6])],[]⟩ Tryz.f211 = some F211 := by kernel_rfl
theorem F211_fn : FnOK2 Tryz.prog 211 (.pl F211) := .pl Tryz.func211 (by kernel_rfl) F211_ok
theorem F212_ok : prepF Tryz.prog ⟨[],[(0,[0,1]),(1,[0,1,11]),(2,[0,17]),(3,[4]),(4,[0,5]),(5,[0,5,6]),(6,[0,5,6,23]),(7,[0,5,6]),(8,[0,5,6,7]),(9,[0,5,7]),(10,[5,7,34]),(11,[5,7]),(12,[4]),(13,[4]),(14,[9]),(15,[4])],[]⟩ Tryz.f212 = some F212 := by kernel_rfl
theorem F212_fn : FnOK2 Tryz.prog 212 (.pl F212) := .pl Tryz.func212 (by kernel_rfl) F212_ok
theorem F213_ok : prepF Tryz.prog ⟨[],[(0,[0,1]),(1,[4])],[]⟩ Tryz.f213 = some F213 := by kernel_rfl
theorem F213_fn : FnOK2 Tryz.prog 213 (.pl F213) := .pl Tryz.func213 (by kernel_rfl) F213_ok
theorem F215_ok : prepF Tryz.prog ⟨[],[(0,[0]),(1,[2])],[]⟩ Tryz.f215 = some F215 := by kernel_rfl
theorem F215_fn : FnOK2 Tryz.prog 215 (.pl F215) := .pl Tryz.func215 (by kernel_rfl) F215_ok
theorem F216_ok : prepF Tryz.prog ⟨[],[(0,[0,1]),(1,[0,1,5,6]),(2,[0,1,5,6,7]),(3,[0,1,5,6,7,8]),(4,[0,1,5,6,7,8,9]),(5,[0,1,5,6,7,8,9,20]),(6,[0,1,5,6,7,8,9]),(7,[0,1,5,6,7,8,9]),(8,[0,1,5,6,7,8,39]),(9,[4]),(10,[0,1,5,6,7,8,10]),(11,[0,1,5,6,7,8,10,44]),(12,[0,1,5,6,7,8,10]),(13,[0,1,5,6,7,8,10]),(14,[0,1,5,6,7,8,10]),(15,[0,1,5,6,7,8,10]),(16,[0,1,5,6,7,8,10,77]),(17,[4]),(18,[4]),(1000000,[0,1,5,6,7,8,9]),(1000002,[0,1,5,6,7,8,10])],[]⟩ Tryz.f216 = some F216 := by kernel_rfl
theorem F216_fn : FnOK2 Tryz.prog 216 (.pl F216) := .pl Tryz.func216 (by kernel_rfl) F216_ok
theorem F217_ok : prepF Tryz.prog ⟨[],[(0,[0,1]),(1,[0,1,11]),(2,[4]),(3,[0,1,5]),(4,[0,5,12,13]),(5,[0,5,12,13,14]),(6,[0,5,6,12,13]),(7,[0,5,7,12,13]),(8,[0,5,7,12,13,21]),(9,[4]),(10,[0,5,12,13]),(11,[0,5,12,13]),(12,[4]),(1000000,[0,5,12,13])],[]⟩ Tryz.f217 = some F217 := by kernel_rfl
theorem F217_fn : FnOK2 Tryz.prog 217 (.pl F217) := .pl Tryz.func217 (by kernel_rfl) F217_ok
theorem F218_ok : prepF Tryz.prog ⟨[],[(0,[0,1,2,3,10]),(1,[0,1,2,3,10,13]),(2,[0,1,2,3,10]),(3,[0,1,2,3,10]),(1000000,[0,1,2,3,10])],[]⟩ Tryz.f218 = some F218 := by kernel_rfl
theorem F218_fn : FnOK2 Tryz.prog 218 (.pl F218) := .pl Tryz.func218 (by kernel_rfl) F218_ok
theorem F220_ok : prepF Tryz.prog ⟨[],[(0,[0,1,2]),(1,[0,1,2,13]),(2,[6,7]),(3,[0,1,2,8]),(4,[0,1,2,8,16]),(5,[0,1,2,8,16,17]),(6,[0,1,2,8]),(7,[0,1,2,8,21]),(8,[0,1,2]),(9,[0,1,2,8]),(10,[0,1,2,8]),(11,[2,7,8,9]),(12,[2,7,8,9,38]),(13,[6,7]),(14,[2,8,9,41]),(15,[2,8,9]),(16,[8,9,10]),(17,[8,9,10,52]),(18,[6,7]),(19,[8,9,10,62]),(20,[6,7]),(21,[8,11]),(22,[11,69]),(23,[11]),(24,[6,7])],[]⟩ Tryz.f220 = some F220 := by kernel_rfl
theorem F220_fn : FnOK2 Tryz.prog 220 (.pl F220) := .pl Tryz.func220 (by kernel_rfl) F220_ok
theorem F221_ok : prepF Tryz.prog ⟨[],[(0,[0,1]),(1,[4])],[]⟩ Tryz.f221 = some F221 := by kernel_rfl
theorem F221_fn : FnOK2 Tryz.prog 221 (.pl F221) := .pl Tryz.func221 (by kernel_rfl) F221_ok
theorem F222_ok : prepF Tryz.prog ⟨[],[(0,[0,1]),(1,[4])],[]⟩ Tryz.f222 = some F222 := by kernel_rfl
theorem F222_fn : FnOK2 Tryz.prog 222 (.pl F222) := .pl Tryz.func222 (by kernel_rfl) F222_ok
theorem F223_ok : prepF Tryz.prog ⟨[],[(0,[0,1,2]),(1,[6])],[]⟩ Tryz.f223 = some F223 := by kernel_rfl
theorem F223_fn : FnOK2 Tryz.prog 223 (.pl F223) := .pl Tryz.func223 (by kernel_rfl) F223_ok
theorem F224_ok : prepF Tryz.prog ⟨[],[(0,[0,1,2]),(1,[6])],[]⟩ Tryz.f224 = some F224 := by kernel_rfl
theorem F224_fn : FnOK2 Tryz.prog 224 (.pl F224) := .pl Tryz.func224 (by kernel_rfl) F224_ok
theorem F225_ok : prepF Tryz.prog ⟨[9],[(0,[0]),(1,[0,4]),(2,[0,4,16]),(3,[2,3]),(4,[0,4,5]),(5,[0,4,5,6]),(6,[0,4,5,6,23]),(7,[0,7]),(8,[2,3]),(9,[0,4,5,6,8]),(10,[0,4,5,8,9]),(11,[0,5,8,9,45]),(12,[2,3]),(13,[0,5,8,9,10]),(14,[0,5,8,10,57]),(15,[2,3]),(16,[0,5,8,10,59]),(17,[2,3]),(18,[0,5,8,10,11]),(19,[0,5,8,10,11,75]),(20,[2,3]),(21,[0,5,10,11,77]),(22,[2,3]),(23,[5,10,11,12]),(24,[5,10,11,12,98]),(25,[2,3]),(26,[2,3])],[]⟩ Tryz.f225 = some F225 := by kernel_rfl
theorem F225_fn : FnOK2 Tryz.prog 225 (.pl F225) := .pl Tryz.func225 (by kernel_rfl) F225_ok
theorem F226_ok : prepF Tryz.prog ⟨[],[(0,[0,1]),(1,[0,7]),(2,[0,7,8]),(3,[0,7,8,9]),(4,[0,7,8,9]),(5,[0,7,8,9,26]),(6,[0,7,8,9,33]),(7,[0,7,8,9,11]),(8,[0,7,8,9,11,43]),(9,[4]),(10,[0,7,8,9]),(11,[0,7,8,9,12]),(12,[0,7,8,9,12,51]),(13,[0,7,8,9,12]),(14,[0,7,8,9,12,64]),(15,[4]),(16,[0,7,8,9,10]),(17,[0,7,8,9,10]),(18,[0,7,8,9,98]),(19,[4]),(20,[8,9,13]),(21,[8,9,13,108]),(22,[4]),(23,[0,7,8,9,14]),(24,[0,7,8,9,14,15]),(25,[0,7,8,9,14,15,124]),(26,[0,7,8,9,14,15]),(27,[0,7,8,9,14,15,139]),(28,[0,7,8,9,14,15,16]),(29,[0,7,8,9,14,15,16,143]),(30,[0,7,8,9,14,15,16]),(31,[0,7,8,9,14,15,16,156]),(32,[4]),(33,[4]),(34,[0,1,160]),(35,[4]),(36,[0,1,171]),(37,[175]),(38,[175,176,177]),(39,[5,6,175]),(40,[5,175,181]),(41,[4]),(42,[4]),(43,[0,1,183]),(44,[4]),(1000001,[0,7,8,9]),(1000003,[0,7,8,9,12]),(1000005,[0,7,8,9,14,15]),(1000007,[0,7,8,9,14,15,16]),(1000009,[175])],[]⟩ Tryz.f226 = some F226 := by kernel_rfl
theorem F226_fn : FnOK2 Tryz.prog 226 (.pl F226) := .pl Tryz.func226 (by kernel_rfl) F226_ok
theorem F227_ok : prepF Tryz.prog ⟨[],[(0,[0]),(1,[2])],[]⟩ Tryz.f227 = some F227 := by kernel_rfl
theorem F227_fn : FnOK2 Tryz.prog 227 (.pl F227) := .pl Tryz.func227 (by kernel_rfl) F227_ok
theorem F228_ok : prepF Tryz.prog ⟨[],[(0,[0]),(1,[0,4]),(2,[2]),(3,[2])],[]⟩ Tryz.f228 = some F228 := by kernel_rfl
theorem F228_fn : FnOK2 Tryz.prog 228 (.pl F228) := .pl Tryz.func228 (by kernel_rfl) F228_ok
theorem F229_ok : prepF Tryz.prog ⟨[],[(0,[0]),(1,[0,3]),(2,[2])],[]⟩ Tryz.f229 = some F229 := by kernel_rfl
theorem F229_fn : FnOK2 Tryz.prog 229 (.pl F229) := .pl Tryz.func229 (by kernel_rfl) F229_ok
theorem F230_ok : prepF Tryz.prog ⟨[],[(0,[0,1,4]),(1,[0,1,4,20]),(2,[0,1,4,5]),(3,[0,1,4,5]),(4,[0,1,4,6,7]),(5,[0,1,4,6,8,9]),(6,[0,1,4,8,9,10,11]),(7,[0,1,4,8,10,11]),(8,[0,1,4,10,11]),(9,[0,1,4,10]),(10,[0,1,4]),(11,[0,1,4]),(12,[0,4,12]),(13,[0,4,12,99]),(14,[0,4,12,13]),(15,[0,4,12,13]),(16,[0,4,12,14,15]),(17,[0,4,12,14]),(18,[0,4,12]),(19,[0,4,12]),(20,[0,4,12,139]),(21,[0,4,12,16]),(22,[0,4,12,16]),(23,[0,4,12]),(24,[0,4,12]),(25,[0,12,161]),(26,[]),(1000000,[0,1,4])],[]⟩ Tryz.f230 = some F230 := by kernel_rfl
theorem F230_fn : FnOK2 Tryz.prog 230 (.pl F230) := .pl Tryz.func230 (by kernel_rfl) F230_ok
theorem F231_ok : prepF Tryz.prog ⟨[],[(0,[0,1,2,3,4,10,11]),(1,[0,1,2,3,4,10,11,28]),(2,[0,1,2,3,4,10,11]),(3,[0,1,2,3,4,10,11,12]),(4,[0,1,2,3,4,10,11,12,13]),(5,[0,1,2,3,4,10,11,12,13,30]),(6,[0,1,2,3,4,10,11,12,13]),(7,[0,1,2,3,4,10,11,12,13,34]),(8,[0,1,2,3,4,10,11,12,13,14]),(9,[0,1,2,3,4,10,11,12,13,14,15]),(10,[0,1,3,4,10,11,12,13,14,15,16]),(11,[0,1,3,4,10,11,12,13,14,15,16,46]),(12,[0,1,3,4,10,11,12,13,14,15,16]),(13,[0,1,3,4,10,11,12,13,14,15,16]),(14,[0,1,3,4,10,11,12,13,14,15,16]),(15,[0,1,3,4,10,11,12,13]),(16,[0,3,4,10,11,12,13]),(17,[0,1,3,4,10,11,12,13,17]),(18,[0,1,3,4,10,11,12,13,17,68]),(19,[0,1,3,4,10,11,12,13,17]),(20,[0,1,3,4,10,11,12,13,17,18]),(21,[0,3,4,10,11,12,13,17,18]),(22,[0,1,3,4,10,11,12,13,17]),(23,[0,1,3,4,10,11,12,13]),(24,[0,3,4,10,11,12,13]),(25,[0,4,10,11,12,13,89]),(26,[0,4,10,11,12,13]),(27,[0,4,10,11,12,13]),(28,[0,10,11,12,13,94]),(29,[10,11]),(30,[10,11]),(1000000,[0,1,3,4,10,11,12,13,14,15,16]),(1000002,[0,1,3,4,10,11,12,13,17])],[]⟩ Tryz.f231 = some F231 := by kernel_rfl
theorem F231_fn : FnOK2 Tryz.prog 231 (.pl F231) := .pl Tryz.func231 (by kernel_rfl) F231_ok
theorem F233_ok : prepF Tryz.prog ⟨[],[(0,[0]),(1,[0,4]),(2,[0,4,5]),(3,[0,4,5,12]),(4,[0,4,5]),(5,[0,4,5]),(6,[0,4,6,7]),(7,[4,6,7,8]),(8,[4,6,7,8,25]),(9,[4,6,7,8]),(10,[4,6,7,8,30]),(11,[4,6,7,8]),(12,[4,6,7,8]),(13,[2,3]),(1000000,[0,4,5]),(1000002,[4,6,7,8])],[]⟩ Tryz.f233 = some F233 := by kernel_rfl
theorem F233_fn : FnOK2 Tryz.prog 233 (.pl F233) := .pl Tryz.func233 (by kernel_rfl) F233_ok
theorem F234_ok : prepF Tryz.prog ⟨[],[(0,[0]),(1,[0,3]),(2,[2]),(3,[0,13]),(4,[2]),(5,[0,24]),(6,[2]),(7,[2])],[]⟩ Tryz.f234 = some F234 := by kernel_rfl
theorem F234_fn : FnOK2 Tryz.prog 234 (.pl F234) := .pl Tryz.func234 (by kernel_rfl) F234_ok
theorem F235_ok : prepF Tryz.prog ⟨[],[(0,[0,1,2]),(1,[0,1,2,19]),(2,[6,7]),(3,[0,1,2,8]),(4,[0,1,2,8,9]),(5,[6,7]),(6,[0,1,2,8,9,25]),(7,[0,2,8,9,32]),(8,[0,1,2,8,9]),(9,[0,1,2,8,9,37]),(10,[0,1,2,8,9]),(11,[0,1,2,8,9]),(12,[0,2,8,9,40]),(13,[0,1,2,8,9]),(14,[0,1,2,8,9]),(15,[0,2,8,9,52]),(16,[0,1,2,8,9]),(17,[0,1,2,8,9]),(18,[0,2,8,9,64]),(19,[0,1,2,8,9]),(20,[0,1,2,8,9]),(21,[0,1,2,8,9,77]),(22,[0,1,2,8,9]),(23,[0,1,2,8,9,83]),(24,[6,7]),(25,[0,1,2,8,9]),(26,[0,1,2,8,9,85]),(27,[0,1,2,8,9,10]),(28,[0,1,2,8,9,85,90]),(29,[0,1,2,8,9,10]),(30,[0,1,2,8,9,92]),(31,[0,1,2,8,9,10]),(32,[0,1,8,9,10,11]),(33,[0,1,8,9,10,11,12]),(34,[0,1,8,9,10,11,12,13]),(35,[1,8,9,10,11,12,13,99,100,101]),(36,[1,8,9,10,11,12,13,99,100,101,102]),(37,[1,8,9,10,11,12,13,15,99,100,101]),(38,[1,8,9,10,11,12,13,15,99,100,101]),(39,[6,7]),(40,[1,8,9,10,11,12,13,15,99,100,101,106]),(41,[1,8,9,10,11,12,13,99,100,101]),(42,[1,8,9,10,11,12,13,15,99,100,101,112]),(43,[1,8,9,10,11,12,13,16,99,100,101]),(44,[1,8,9,10,11,12,13,15,99,100,101,121]),(45,[1,8,9,10,11,12,13,16,99,100,101]),(46,[1,8,9,10,11,12,13,16,99,100,101,137]),(47,[6,7]),(48,[1,8,9,10,11,12,13,16,99,100,101,141]),(49,[6,7]),(50,[1,8,9,10,11,12,13,16,99,100,101]),(51,[1,8,9,10,11,12,13,17,99,100,101]),(52,[1,8,9,10,11,12,17,99,100,101,159]),(53,[6,7]),(54,[1,8,9,10,11,12,13,99,100,101]),(55,[1,8,9,10,11,12,13,99,100,101]),(56,[13,169]),(57,[6,7]),(58,[6,7]),(1000003,[1,8,9,10,11,12,13,99,100,101])],[]⟩ Tryz.f235 = some F235 := by kernel_rfl
theorem F235_fn : FnOK2 Tryz.prog 235 (.pl F235) := .pl Tryz.func235 (by kernel_rfl) F235_ok
theorem F236_ok : prepF Tryz.prog ⟨[],[(0,[0]),(1,[0,6]),(2,[2]),(3,[0,3]),(4,[3]),(5,[2])],[]⟩ Tryz.f236 = some F236 := by kernel_rfl
theorem F236_fn : FnOK2 Tryz.prog 236 (.pl F236) := .pl Tryz.func236 (by kernel_rfl) F236_ok
theorem F237_ok : prepF Tryz.prog ⟨[],[(0,[0]),(1,[2])],[]⟩ Tryz.f237 = some F237 := by kernel_rfl
theorem F237_fn : FnOK2 Tryz.prog 237 (.pl F237) := .pl Tryz.func237 (by kernel_rfl) F237_ok
theorem F238_ok : prepF Tryz.prog ⟨[],[(0,[0,1]),(1,[4])],[]⟩ Tryz.f238 = some F238 := by kernel_rfl
theorem F238_fn : FnOK2 Tryz.prog 238 (.pl F238) := .pl Tryz.func238 (by kernel_rfl) F238_ok
theorem F239_ok : prepF Tryz.prog ⟨[],[(0,[0]),(1,[0,3]),(2,[2]),(3,[10]),(4,[2]),(5,[2])],[]⟩ Tryz.f239 = some F239 := by kernel_rfl
theorem F239_fn : FnOK2 Tryz.prog 239 (.pl F239) := .pl Tryz.func239 (by kernel_rfl) F239_ok
theorem F240_ok : prepF Tryz.prog ⟨[],[(0,[0]),(1,[2])],[]⟩ Tryz.f240 = some F240 := by kernel_rfl
theorem F240_fn : FnOK2 Tryz.prog 240 (.pl F240) := .pl Tryz.func240 (by kernel_rfl) F240_ok
theorem F241_ok : prepF Tryz.prog ⟨[],[(0,[0,2]),(1,[0,2,4]),(2,[0]),(3,[0,2]),(4,[0,2,8]),(5,[0,2]),(6,[0,2]),(7,[0,2,14]),(8,[0,2]),(9,[0,2]),(10,[2])],[]⟩ Tryz.f241 = some F241 := by kernel_rfl
theorem F241_fn : FnOK2 Tryz.prog 241 (.pl F241) := .pl Tryz.func241 (by kernel_rfl) F241_ok
theorem F242_ok : prepF Tryz.prog ⟨[],[(0,[0]),(1,[3]),(2,[2]),(3,[2])],[]⟩ Tryz.f242 = some F242 := by kernel_rfl
theorem F242_fn : FnOK2 Tryz.prog 242 (.pl F242) := .pl Tryz.func242 (by kernel_rfl) F242_ok
theorem F243_ok : prepF Tryz.prog ⟨[],[(0,[0]),(1,[2])],[]⟩ Tryz.f243 = some F243 := by kernel_rfl
theorem F243_fn : FnOK2 Tryz.prog 243 (.pl F243) := .pl Tryz.func243 (by kernel_rfl) F243_ok
theorem F244_ok : prepF Tryz.prog ⟨[],[(0,[0]),(1,[2]),(2,[2])],[]⟩ Tryz.f244 = some F244 := by kernel_rfl
theorem F244_fn : FnOK2 Tryz.prog 244 (.pl F244) := .pl Tryz.func244 (by kernel_rfl) F244_ok
theorem F245_ok : prepF Tryz.prog ⟨[],[(0,[0]),(1,[2])],[]⟩ Tryz.f245 = some F245 := by kernel_rfl
theorem F245_fn : FnOK2 Tryz.prog 245 (.pl F245) := .pl Tryz.func245 (by kernel_rfl) F245_ok
theorem F246_ok : prepF Tryz.prog ⟨[],[(0,[0]),(1,[0,3]),(2,[0,3,4]),(3,[0,3,4,18]),(4,[0,3,4]),(5,[0,3,4,5]),(6,[0,3,4,5,46]),(7,[0,4]),(8,[0,3,4]),(9,[0,3,4,5]),(10,[0,3,4,5,54]),(11,[0,3,4,5]),(12,[0,3,4,5,83]),(13,[0,3,4,5]),(14,[0,3,4,5,87]),(15,[0,4,5,89]),(16,[2]),(17,[0,3,4,5]),(18,[0,4,5,91]),(19,[2]),(20,[0,3,4,5]),(21,[2]),(1000000,[0,3,4,5])],[]⟩ Tryz.f246 = some F246 := by kernel_rfl
theorem F246_fn : FnOK2 Tryz.prog 246 (.pl F246) := .pl Tryz.func246 (by kernel_rfl) F246_ok
theorem F247_ok : prepF Tryz.prog ⟨[],[(0,[0]),(1,[0,4]),(2,[2]),(3,[2])],[]⟩ Tryz.f247 = some F247 := by kernel_rfl
theorem F247_fn : FnOK2 Tryz.prog 247 (.pl F247) := .pl Tryz.func247 (by kernel_rfl) F247_ok
theorem F248_ok : prepF Tryz.prog ⟨[],[(0,[0]),(1,[0,4]),(2,[2]),(3,[2])],[]⟩ Tryz.f248 = some F248 := by kernel_rfl
theorem F248_fn : FnOK2 Tryz.prog 248 (.pl F248) := .pl Tryz.func248 (by kernel_rfl) F248_ok
def tab : List (Nat × DX) := [(3,.pl F3),(11,.pl F11),(15,.pl F15),(16,.pl F16),(17,.pl F17),(18,.pl F18),(19,.pl F19),(20,.pl F20),(21,.pl F21),(22,.pl F22),(23,.pl F23),(24,.pl F24),(25,.pl F25),(26,.pl F26),(28,.pl F28),(31,.pl F31),(32,.pl F32),(34,.pl F34),(37,.pl F37),(41,.pl F41),(42,.pl F42),(43,.pl F43),(44,.pl F44),(45,.pl F45),(47,.pl F47),(48,.pl F48),(49,.pl F49),(50,.pl F50),(51,.df F51),(52,.pl F52),(53,.pl F53),(54,.pl F54),(55,.pl F55),(56,.pl F56),(57,.pl F57),(58,.pl F58),(59,.pl F59),(64,.pl F64),(75,.pl F75),(77,.pl F77),(78,.pl F78),(79,.pl F79),(80,.pl F80),(81,.pl F81),(82,.pl F82),(83,.pl F83),(84,.pl F84),(85,.pl F85),(86,.pl F86),(87,.rc F87),(88,.pl F88),(89,.pl F89),(90,.pl F90),(91,.pl F91),(92,.pl F92),(93,.pl F93),(94,.pl F94),(95,.pl F95),(96,.pl F96),(97,.pl F97),(98,.pl F98),(99,.pl F99),(100,.pl F100),(101,.pl F101),(102,.pl F102),(103,.pl F103),(104,.pl F104),(105,.pl F105),(112,.pl F112),(113,.pl F113),(128,.pl F128),(129,.pl F129),(130,.pl F130),(131,.pl F131),(132,.pl F132),(133,.pl F133),(134,.pl F134),(135,.pl F135),(136,.pl F136),(137,.pl F137),(138,.pl F138),(139,.pl F139),(140,.pl F140),(141,.pl F141),(142,.pl F142),(143,.pl F143),(144,.pl F144),(145,.pl F145),(150,.pl F150),(159,.pl F159),(160,.pl F160),(161,.pl F161),(162,.pl F162),(163,.pl F163),(164,.pl F164),(165,.pl F165),(166,.pl F166),(167,.pl F167),(168,.pl F168),(169,.pl F169),(170,.pl F170),(171,.pl F171),(172,.pl F172),(173,.pl F173),(174,.pl F174),(175,.pl F175),(176,.pl F176),(180,.pl F180),(181,.pl F181),(185,.pl F185),(186,.pl F186),(187,.pl F187),(188,.pl F188),(189,.pl F189),(190,.pl F190),(191,.pl F191),(192,.pl F192),(193,.pl F193),(194,.pl F194),(195,.pl F195),(196,.pl F196),(197,.pl F197),(198,.pl F198),(199,.pl F199),(200,.pl F200),(201,.pl F201),(204,.pl F204),(205,.pl F205),(206,.pl F206),(207,.pl F207),(208,.pl F208),(209,.pl F209),(210,.pl F210),(211,.pl F211),(212,.pl F212),(213,.pl F213),(215,.pl F215),(216,.pl F216),(217,.pl F217),(218,.pl F218),(220,.pl F220),(221,.pl F221),(222,.pl F222),(223,.pl F223),(224,.pl F224),(225,.pl F225),(226,.pl F226),(227,.pl F227),(228,.pl F228),(229,.pl F229),(230,.pl F230),(231,.pl F231),(233,.pl F233),(234,.pl F234),(235,.pl F235),(236,.pl F236),(237,.pl F237),(238,.pl F238),(239,.pl F239),(240,.pl F240),(241,.pl F241),(242,.pl F242),(243,.pl F243),(244,.pl F244),(245,.pl F245),(246,.pl F246),(247,.pl F247),(248,.pl F248)]
theorem tabOK : TabOK2 Tryz.prog tab :=
  .cons F3_fn <|
  .cons F11_fn <|
  .cons F15_fn <|
  .cons F16_fn <|
  .cons F17_fn <|
  .cons F18_fn <|
  .cons F19_fn <|
  .cons F20_fn <|
  .cons F21_fn <|
  .cons F22_fn <|
  .cons F23_fn <|
  .cons F24_fn <|
  .cons F25_fn <|
  .cons F26_fn <|
  .cons F28_fn <|
  .cons F31_fn <|
  .cons F32_fn <|
  .cons F34_fn <|
  .cons F37_fn <|
  .cons F41_fn <|
  .cons F42_fn <|
  .cons F43_fn <|
  .cons F44_fn <|
  .cons F45_fn <|
  .cons F47_fn <|
  .cons F48_fn <|
  .cons F49_fn <|
  .cons F50_fn <|
  .cons F51_fn <|
  .cons F52_fn <|
  .cons F53_fn <|
  .cons F54_fn <|
  .cons F55_fn <|
  .cons F56_fn <|
  .cons F57_fn <|
  .cons F58_fn <|
  .cons F59_fn <|
  .cons F64_fn <|
  .cons F75_fn <|
  .cons F77_fn <|
  .cons F78_fn <|
  .cons F79_fn <|
  .cons F80_fn <|
  .cons F81_fn <|
  .cons F82_fn <|
  .cons F83_fn <|
  .cons F84_fn <|
  .cons F85_fn <|
  .cons F86_fn <|
  .cons F87_fn <|
  .cons F88_fn <|
  .cons F89_fn <|
  .cons F90_fn <|
  .cons F91_fn <|
  .cons F92_fn <|
  .cons F93_fn <|
  .cons F94_fn <|
  .cons F95_fn <|
  .cons F96_fn <|
  .cons F97_fn <|
  .cons F98_fn <|
  .cons F99_fn <|
  .cons F100_fn <|
  .cons F101_fn <|
  .cons F102_fn <|
  .cons F103_fn <|
  .cons F104_fn <|
  .cons F105_fn <|
  .cons F112_fn <|
  .cons F113_fn <|
  .cons F128_fn <|
  .cons F129_fn <|
  .cons F130_fn <|
  .cons F131_fn <|
  .cons F132_fn <|
  .cons F133_fn <|
  .cons F134_fn <|
  .cons F135_fn <|
  .cons F136_fn <|
  .cons F137_fn <|
  .cons F138_fn <|
  .cons F139_fn <|
  .cons F140_fn <|
  .cons F141_fn <|
  .cons F142_fn <|
  .cons F143_fn <|
  .cons F144_fn <|
  .cons F145_fn <|
  .cons F150_fn <|
  .cons F159_fn <|
  .cons F160_fn <|
  .cons F161_fn <|
  .cons F162_fn <|
  .cons F163_fn <|
  .cons F164_fn <|
  .cons F165_fn <|
  .cons F166_fn <|
  .cons F167_fn <|
  .cons F168_fn <|
  .cons F169_fn <|
  .cons F170_fn <|
  .cons F171_fn <|
  .cons F172_fn <|
  .cons F173_fn <|
  .cons F174_fn <|
  .cons F175_fn <|
  .cons F176_fn <|
  .cons F180_fn <|
  .cons F181_fn <|
  .cons F185_fn <|
  .cons F186_fn <|
  .cons F187_fn <|
  .cons F188_fn <|
  .cons F189_fn <|
  .cons F190_fn <|
  .cons F191_fn <|
  .cons F192_fn <|
  .cons F193_fn <|
  .cons F194_fn <|
  .cons F195_fn <|
  .cons F196_fn <|
  .cons F197_fn <|
  .cons F198_fn <|
  .cons F199_fn <|
  .cons F200_fn <|
  .cons F201_fn <|
  .cons F204_fn <|
  .cons F205_fn <|
  .cons F206_fn <|
  .cons F207_fn <|
  .cons F208_fn <|
  .cons F209_fn <|
  .cons F210_fn <|
  .cons F211_fn <|
  .cons F212_fn <|
  .cons F213_fn <|
  .cons F215_fn <|
  .cons F216_fn <|
  .cons F217_fn <|
  .cons F218_fn <|
  .cons F220_fn <|
  .cons F221_fn <|
  .cons F222_fn <|
  .cons F223_fn <|
  .cons F224_fn <|
  .cons F225_fn <|
  .cons F226_fn <|
  .cons F227_fn <|
  .cons F228_fn <|
  .cons F229_fn <|
  .cons F230_fn <|
  .cons F231_fn <|
  .cons F233_fn <|
  .cons F234_fn <|
  .cons F235_fn <|
  .cons F236_fn <|
  .cons F237_fn <|
  .cons F238_fn <|
  .cons F239_fn <|
  .cons F240_fn <|
  .cons F241_fn <|
  .cons F242_fn <|
  .cons F243_fn <|
  .cons F244_fn <|
  .cons F245_fn <|
  .cons F246_fn <|
  .cons F247_fn <|
  .cons F248_fn <|
  .nil
end Go.Proofs.C1

namespace Go.Proofs.YthgidapmofcloaaGreatDoor
open Go.RowKit Go.Extern.Stop Go.Stop Go.Extern

set_option maxRecDepth 100000 in
theorem as_nil (t : Value) (w : World) : Calls Tryz.prog 74 #[.nilIface, t] w fun e w' => e = .returned (.bool false) ∧ w' = w := by
  go_enter Tryz.func74, Tryz.ntmps74
  go_wp2
  go_ret
  exact ⟨rfl, rfl⟩

namespace Pr
theorem nTypes : Tryz.prog.types.size = 291 := by kernel_rfl
theorem valueOf107 (t : Addr) (w : World) : (ReflectliteValue.unpack (.iface 107 (.pointer (some t)))).run Tryz.prog w
    = .ok (.agg #[.pointer (some ⟨9, 107, none⟩), .pointer (some ⟨w.heap.size, 0, none⟩), .int .u64 150]) (w.alloc (.cells #[.pointer (some t)] 107)) := by kernel_rfl
theorem type107 (a : Addr) (w : World) : (ReflectliteValue.methodAny (ReflectliteValue.valueError "reflectlite.Value.Type" 0) (fun t _ _ _ => ReflectliteType.toType t) #[.agg #[.pointer (some ⟨9, 107, none⟩), .pointer (some a), .int .u64 150]]).run Tryz.prog w
    = .ok (.iface 187 (.agg #[.pointer (some ⟨9, 107, none⟩)])) w := by kernel_rfl
theorem methodKind (h : Value) (w : World) : (Go.method 391 187 (.agg #[h]) "Kind").run Tryz.prog w = .ok (263, h) w := by kernel_rfl
theorem kind107 (w : World) : ((ReflectliteType.abiMethod fun t => (fun a : Nat => Value.int IntKind.u8 (a : Int)) <$> Rtype.kind t) #[.pointer (some ⟨9, 107, none⟩)]).run Tryz.prog w = .ok (.int .u8 22) w := by kernel_rfl
theorem kind105 (w : World) : ((ReflectliteType.abiMethod fun t => (fun a : Nat => Value.int IntKind.u8 (a : Int)) <$> Rtype.kind t) #[.pointer (some ⟨9, 105, none⟩)]).run Tryz.prog w = .ok (.int .u8 22) w := by kernel_rfl
theorem rlm (z : Sem Value) (f : TypeId → Addr → Nat → Nat → Sem Value) (v : Value) :
    ReflectliteValue.method z f #[v] = (do match ← ReflectliteValue.parts v with | none => z | some (t, a, fl) => f t a fl (fl % 32)) := rfl
theorem parts107 (a : Addr) (w : World) : (ReflectliteValue.parts (.agg #[.pointer (some ⟨9, 107, none⟩), .pointer (some a), .int .u64 150])).run Tryz.prog w = .ok (some (107, a, 150)) w := by kernel_rfl
theorem isNil107 (a p : Addr) (W : World) (ha : W.cell? a = some (.pointer (some p))) :
    (ReflectliteValue.method (ReflectliteValue.valueError "reflectlite.Value.IsNil" 0) ReflectliteValue.isNil #[.agg #[.pointer (some ⟨9, 107, none⟩), .pointer (some a), .int .u64 150]]).run Tryz.prog W = .ok (.bool false) W := by
  rw [rlm]
  simp only [Sem.run_bind, parts107, Result.andThen]
  simp [ReflectliteValue.isNil, loadVar, isAgg, underlying, Tryz.underlying107, ha, Result.andThen]
theorem methodElem (h : Value) (w : World) : (Go.method 391 187 (.agg #[h]) "Elem").run Tryz.prog w = .ok (276, .agg #[h]) w := by kernel_rfl
theorem methodImplements (h : Value) (w : World) : (Go.method 391 187 (.agg #[h]) "Implements").run Tryz.prog w = .ok (277, .agg #[h]) w := by kernel_rfl
theorem methodAssignableTo (h : Value) (w : World) : (Go.method 391 187 (.agg #[h]) "AssignableTo").run Tryz.prog w = .ok (274, .agg #[h]) w := by kernel_rfl
theorem elem107 (w : World) : (ReflectliteType.method ReflectliteType.elem #[.agg #[.pointer (some ⟨9, 107, none⟩)]]).run Tryz.prog w = .ok (.iface 187 (.agg #[.pointer (some ⟨9, 105, none⟩)])) w := by kernel_rfl
theorem implements105 (w : World) : (ReflectliteType.relation "Implements" ReflectliteType.implements_ #[.agg #[.pointer (some ⟨9, 105, none⟩)], .iface 187 (.agg #[.pointer (some ⟨9, 32, none⟩)])]).run Tryz.prog w = .ok (.bool true) w := by kernel_rfl
theorem typeOf105 (v : Value) (w : World) : (ReflectliteType.typeOf #[.iface 105 v]).run Tryz.prog w = .ok (.iface 187 (.agg #[.pointer (some ⟨9, 105, none⟩)])) w := by kernel_rfl
theorem assignable105 (w : World) : (ReflectliteType.relation "AssignableTo" ReflectliteType.assignableTo #[.agg #[.pointer (some ⟨9, 105, none⟩)], .iface 187 (.agg #[.pointer (some ⟨9, 105, none⟩)])]).run Tryz.prog w = .ok (.bool true) w := by kernel_rfl
theorem valueOf105 (e : Addr) (w : World) : (ReflectliteValue.unpack (.iface 105 (.pointer (some e)))).run Tryz.prog w
    = .ok (.agg #[.pointer (some ⟨9, 105, none⟩), .pointer (some ⟨w.heap.size, 0, none⟩), .int .u64 150]) (w.alloc (.cells #[.pointer (some e)] 105)) := by kernel_rfl
theorem elemOf107 (w : World) : (Rtype.elem? 107).run Tryz.prog w = .ok (some 105) w := by kernel_rfl
theorem mk105 (p : Addr) (w : World) : (ReflectliteValue.mk 105 p ReflectliteValue.flagAddr).run Tryz.prog w = .ok (.agg #[.pointer (some ⟨9, 105, none⟩), .pointer (some p), .int .u64 406]) w := by kernel_rfl
theorem elemV107 (a p : Addr) (W : World) (ha : W.cell? a = some (.pointer (some p))) :
    (ReflectliteValue.method (ReflectliteValue.valueError "reflectlite.Value.Elem" 0) ReflectliteValue.elem #[.agg #[.pointer (some ⟨9, 107, none⟩), .pointer (some a), .int .u64 150]]).run Tryz.prog W
      = .ok (.agg #[.pointer (some ⟨9, 105, none⟩), .pointer (some p), .int .u64 406]) W := by
  rw [rlm]
  simp only [Sem.run_bind, parts107, Result.andThen]
  simp [ReflectliteValue.elem, loadVar, isAgg, underlying, Tryz.underlying107, ha, Result.andThen, elemOf107, mk105]
theorem rls (v x : Value) : ReflectliteValue.set #[v, x] = (do
    let (some (dst, a, fl), some (src, b, _)) := (← ReflectliteValue.parts v, ← ReflectliteValue.parts x)
      | unsupported (.noEntry "extern/(internal/reflectlite.Value).Set.zeroValue")
    if fl / ReflectliteValue.flagAddr % 2 == 0 then unsupported (.noEntry "extern/(internal/reflectlite.Value).Set.unaddressable")
    let val ← loadVar src b
    if ← Rtype.directlyAssignable dst src then storeVar dst a val
    else if ← Rtype.implements dst src then
      if (← Rtype.kind src) == 20 then
        match val with
        | .nilIface => unsupported (.noEntry "extern/reflectlite: a nil value of one interface type handed on as a value of another")
        | _ => storeVar dst a val
      else storeVar dst a (.iface src val)
    else panicString ("reflectlite.Set: value of type " ++ (← Rtype.spelt src) ++ " is not assignable to type " ++ (← Rtype.spelt dst))
    pure (.tuple #[])) := rfl
theorem parts105a (a : Addr) (w : World) : (ReflectliteValue.parts (.agg #[.pointer (some ⟨9, 105, none⟩), .pointer (some a), .int .u64 406])).run Tryz.prog w = .ok (some (105, a, 406)) w := by kernel_rfl
theorem parts105 (a : Addr) (w : World) : (ReflectliteValue.parts (.agg #[.pointer (some ⟨9, 105, none⟩), .pointer (some a), .int .u64 150])).run Tryz.prog w = .ok (some (105, a, 150)) w := by kernel_rfl
theorem direct105 (w : World) : (Rtype.directlyAssignable 105 105).run Tryz.prog w = .ok true w := by kernel_rfl
theorem set105 (ta b e : Addr) (old : Value) (W : World) (hb : W.cell? b = some (.pointer (some e))) (ht : W.cell? ta = some old) (hf : W.frozen? ta = false) :
    (ReflectliteValue.set #[.agg #[.pointer (some ⟨9, 105, none⟩), .pointer (some ta), .int .u64 406], .agg #[.pointer (some ⟨9, 105, none⟩), .pointer (some b), .int .u64 150]]).run Tryz.prog W
      = .ok (.tuple #[]) (W.setCell ta (.pointer (some e))) := by
  rw [rls]
  simp only [Sem.run_bind, parts105a, parts105, Result.andThen]
  simp [ReflectliteValue.flagAddr, loadVar, isAgg, underlying, Tryz.underlying105, hb, Result.andThen, direct105, storeVar, Value.cells, storeCells, Addr.add]
  rw [run_store Tryz.prog W ta _ _ (by rfl)]
  simp [ht, hf]
end Pr

set_option maxHeartbeats 4000000 in
set_option maxRecDepth 100000 in
theorem as_hit (e t : Addr) (old : Value) (w : World) (hg : w.cell? ⟨0, 0, none⟩ = some (.iface 187 (.agg #[.pointer (some ⟨9, 32, none⟩)]))) (ht0 : w.cell? t = some old) (hf0 : w.frozen? t = false) :
    Calls Tryz.prog 74 #[.iface 105 (.pointer (some e)), .iface 107 (.pointer (some t))] w fun ev w' => ev = .returned (.bool true) ∧ w' = ((((w.alloc (.cells #[.pointer (some t)] 107)).alloc (.cells #[.pointer (some ⟨9, 107, none⟩), .pointer (some ⟨w.heap.size, 0, none⟩), .int .u64 150] 149)).alloc (.cells #[.pointer (some ⟨9, 107, none⟩), .pointer (some ⟨w.heap.size, 0, none⟩), .int .u64 150] 149)).alloc (.cells #[.pointer (some e)] 105)).setCell t (.pointer (some e)) := by
  have h6 := @run_callFunc_extern Tryz.prog 122 _ (fun args => ReflectliteValue.unpack (args.getD 0 (.tuple #[]))) Tryz.func122 (by kernel_rfl) (by kernel_rfl) (by kernel_rfl) (by kernel_rfl)
  have h7 := @run_callFunc_extern Tryz.prog 123 _ (ReflectliteValue.methodAny (ReflectliteValue.valueError "reflectlite.Value.Type" 0) (fun t _ _ _ => ReflectliteType.toType t)) Tryz.func123 (by kernel_rfl) (by kernel_rfl) (by kernel_rfl) (by kernel_rfl)
  have h8 := @run_callFunc_extern Tryz.prog 124 _ (ReflectliteValue.method (ReflectliteValue.valueError "reflectlite.Value.IsNil" 0) ReflectliteValue.isNil) Tryz.func124 (by kernel_rfl) (by kernel_rfl) (by kernel_rfl) (by kernel_rfl)
  have h27 := @run_callFunc_extern Tryz.prog 263 _ (ReflectliteType.abiMethod fun t => do pure (.int .u8 (← Rtype.kind t))) Tryz.func263 (by kernel_rfl) (by kernel_rfl) (by kernel_rfl) (by kernel_rfl)
  have h37 := @run_callFunc_extern Tryz.prog 276 _ (ReflectliteType.method ReflectliteType.elem) Tryz.func276 (by kernel_rfl) (by kernel_rfl) (by kernel_rfl) (by kernel_rfl)
  have h38 := @run_callFunc_extern Tryz.prog 277 _ (ReflectliteType.relation "Implements" ReflectliteType.implements_) Tryz.func277 (by kernel_rfl) (by kernel_rfl) (by kernel_rfl) (by kernel_rfl)
  have h10 := @run_callFunc_extern Tryz.prog 126 _ ReflectliteType.typeOf Tryz.func126 (by kernel_rfl) (by kernel_rfl) (by kernel_rfl) (by kernel_rfl)
  have h35 := @run_callFunc_extern Tryz.prog 274 _ (ReflectliteType.relation "AssignableTo" ReflectliteType.assignableTo) Tryz.func274 (by kernel_rfl) (by kernel_rfl) (by kernel_rfl) (by kernel_rfl)
  have h11 := @run_callFunc_extern Tryz.prog 157 _ (ReflectliteValue.method (ReflectliteValue.valueError "reflectlite.Value.Elem" 0) ReflectliteValue.elem) Tryz.func157 (by kernel_rfl) (by kernel_rfl) (by kernel_rfl) (by kernel_rfl)
  have h12 := @run_callFunc_extern Tryz.prog 158 _ ReflectliteValue.set Tryz.func158 (by kernel_rfl) (by kernel_rfl) (by kernel_rfl) (by kernel_rfl)
  have tO := Pr.typeOf105
  have mA := Pr.methodAssignableTo
  have a25 := Pr.assignable105
  have v25 := Pr.valueOf105
  have f6 := Pr.valueOf107
  have f7 := Pr.type107
  have mK := Pr.methodKind
  have mE := Pr.methodElem
  have mI := Pr.methodImplements
  have k27 := Pr.kind107
  have k25 := Pr.kind105
  have e27 := Pr.elem107
  have i25 := Pr.implements105
  have n8 := Pr.isNil107 ⟨w.heap.size, 0, none⟩ t ((w.alloc (.cells #[.pointer (some t)] 107)).alloc (.cells #[.pointer (some ⟨9, 107, none⟩), .pointer (some ⟨w.heap.size, 0, none⟩), .int .u64 150] 149)) (by simp)
  have hlt : 0 < w.heap.size := by
    rcases Nat.eq_zero_or_pos w.heap.size with h0 | h
    · simp [World.cell?, h0] at hg
    · exact h
  have hg2 : ((w.alloc (.cells #[.pointer (some t)] 107)).alloc (.cells #[.pointer (some ⟨9, 107, none⟩), .pointer (some ⟨w.heap.size, 0, none⟩), .int .u64 150] 149)).cell? ⟨0, 0, none⟩ = some (.iface 187 (.agg #[.pointer (some ⟨9, 32, none⟩)])) := by
    rw [World.cell?_alloc_lt _ _ ⟨0, 0, none⟩ (by simp), World.cell?_alloc_lt _ _ ⟨0, 0, none⟩ hlt]; exact hg
  have htl : t.block < w.heap.size := by
    rcases Nat.lt_or_ge t.block w.heap.size with h | h
    · exact h
    · simp [World.cell?, Array.getElem?_eq_none h] at ht0
  have el := Pr.elemV107 ⟨w.heap.size, 0, none⟩ t (((w.alloc (.cells #[.pointer (some t)] 107)).alloc (.cells #[.pointer (some ⟨9, 107, none⟩), .pointer (some ⟨w.heap.size, 0, none⟩), .int .u64 150] 149)).alloc (.cells #[.pointer (some ⟨9, 107, none⟩), .pointer (some ⟨w.heap.size, 0, none⟩), .int .u64 150] 149)) (by rw [World.cell?_alloc_lt _ _ ⟨w.heap.size, 0, none⟩ (by simp; omega)]; simp)
  have st := Pr.set105 t ⟨w.heap.size + 1 + 1 + 1, 0, none⟩ e old ((((w.alloc (.cells #[.pointer (some t)] 107)).alloc (.cells #[.pointer (some ⟨9, 107, none⟩), .pointer (some ⟨w.heap.size, 0, none⟩), .int .u64 150] 149)).alloc (.cells #[.pointer (some ⟨9, 107, none⟩), .pointer (some ⟨w.heap.size, 0, none⟩), .int .u64 150] 149)).alloc (.cells #[.pointer (some e)] 105))
    (by rw [World.cell?_alloc_at _ _ _ _ (by simp)]; rfl)
    (by rw [World.cell?_alloc_lt _ _ t (by simp; omega), World.cell?_alloc_lt _ _ t (by simp; omega), World.cell?_alloc_lt _ _ t (by simp; omega), World.cell?_alloc_lt _ _ t htl]; exact ht0)
    (by rw [World.frozen?_alloc_old _ _ t (by simp; omega), World.frozen?_alloc_old _ _ t (by simp; omega), World.frozen?_alloc_old _ _ t (by simp; omega), World.frozen?_alloc_old _ _ t (Nat.ne_of_lt htl)]; exact hf0)
  go_enter Tryz.func74, Tryz.ntmps74
  go_wp2
  refine wp_loop_rounds 1 ?_
  rw [rounds_succ]
  go_wp2
  go_ret
  exact ⟨rfl, rfl⟩

namespace Pr
theorem typeOf26 (v : Value) (w : World) : (ReflectliteType.typeOf #[.iface 26 v]).run Tryz.prog w = .ok (.iface 187 (.agg #[.pointer (some ⟨9, 26, none⟩)])) w := by kernel_rfl
theorem comparable26 (w : World) : ((ReflectliteType.method fun t => do Rtype.noPackHeld "Comparable" t; (fun a => Value.bool a.comparable) <$> typeInfo t) #[.agg #[.pointer (some ⟨9, 26, none⟩)]]).run Tryz.prog w = .ok (.bool true) w := by kernel_rfl
theorem methodComparable (v : Value) (w : World) : (Go.method 391 187 v "Comparable").run Tryz.prog w = .ok (275, v) w := by kernel_rfl
theorem noIs (v : Value) (xT : TypeId) (w : World) : (Instr.typeAssert (.iface 105 v) xT 199 true).run Tryz.prog w = .ok (.tuple #[.nilIface, .bool false]) w := run_typeAssert_lacksB Tryz.underlying199 (by kernel_rfl) (by kernel_rfl) v xT w
theorem hasUnwrap (v : Value) (xT : TypeId) (w : World) : (Instr.typeAssert (.iface 105 v) xT 194 true).run Tryz.prog w = .ok (.tuple #[.iface 105 v, .bool true]) w := run_typeAssert_hasB Tryz.underlying194 (by kernel_rfl) v xT w
theorem methodUnwrap (v : Value) (w : World) : (Go.method 391 105 v "Unwrap").run Tryz.prog w = .ok (269, v) w := by kernel_rfl
end Pr
end Go.Proofs.YthgidapmofcloaaGreatDoor

namespace Go.Proofs.YthgidapmofcloaaGreatDoor
open Go.RowKit Go.Extern.Stop Go.Stop Go.Extern

theorem Pr.comp26 : (Tryz.prog.info? 26).map (·.comparable) = some true := by kernel_rfl

set_option maxHeartbeats 4000000 in
set_option maxRecDepth 100000 in
theorem is_hit (pb po : Nat) (m : Int) (w : World) (h1 : w.cell? ⟨pb, po + 1, none⟩ = some (.int .i64 m)) :
    Calls Tryz.prog 76 #[.iface 105 (.pointer (some ⟨pb, po, none⟩)), .iface 26 (.int .i64 m)] w fun e w' => e = .returned (.bool true) ∧ w' = w := by
  have h8 := @run_callFunc_extern Tryz.prog 126 _ Extern.ReflectliteType.typeOf Tryz.func126 (by kernel_rfl) (by kernel_rfl) (by kernel_rfl) (by kernel_rfl)
  have h32 := @run_callFunc_extern Tryz.prog 275 _ (Extern.ReflectliteType.method fun t => do Rtype.noPackHeld "Comparable" t; pure (.bool (← typeInfo t).comparable)) Tryz.func275 (by kernel_rfl) (by kernel_rfl) (by kernel_rfl) (by kernel_rfl)
  have tT := Pr.typeOf26
  have cT := Pr.comparable26
  have mR := Pr.methodComparable
  have nE := Pr.noIs
  have uW := Pr.hasUnwrap
  have mU := Pr.methodUnwrap
  have heq := Go.Lib.run_eql_iface_int (P := Tryz.prog) w (k := .i64) m m Tryz.underlying32 Pr.comp26 Tryz.underlying26
  have hty := run_eql_iface_types (P := Tryz.prog) 105 26 (.pointer (some ⟨pb, po, none⟩)) (.int .i64 m) Tryz.underlying32 (by decide) w
  rw [beq_self_eq_true] at heq
  go_enter Tryz.func76, Tryz.ntmps76
  go_wp2
  refine wp_loop_rounds 2 ?_
  rw [rounds_succ]
  go_wp2
  rw [rounds_succ]
  go_wp2
  go_ret
  exact ⟨rfl, rfl⟩

abbrev gtT : Dn.GT := [(0, [.raw (.iface 187 (.agg #[.pointer (some ⟨9, 32, none⟩)]))])]

theorem gtT_cell {S : Dn.St} {G : Dn.Gh} {w : World} (hI : Dn.Inv Tryz.prog gtT S G w) : w.cell? ⟨0, 0, none⟩ = some (.iface 187 (.agg #[.pointer (some ⟨9, 32, none⟩)])) := by
  obtain ⟨_, c, ty, fr, h1, h2⟩ := hI.glob 0 _ rfl
  simp only [Dn.Rl, Dn.Rv] at h2
  obtain ⟨v, r, e1, ⟨rfl, _⟩, rfl⟩ := h2
  obtain ⟨c⟩ := c
  simp only at e1
  subst e1
  simp [World.cell?, h1]

theorem setCell_wBlk {w : World} {b off : Nat} {c : Array Value} {ty : TypeId} {fr : Nat × Nat} (v : Value) (h : w.heap[b]? = some (.cells c ty fr)) : w.setCell ⟨b, off, none⟩ v = Dn.wBlk w b (.cells (c.setIfInBounds off v) ty fr) := by
  have hlt := Dn.lt_of_some h
  simp only [World.setCell, Dn.wBlk]
  congr 1
  apply Array.ext_getElem?
  intro j
  by_cases e : j = b
  · subst e; rw [Array.getElem?_modify, if_pos rfl, h]; simp [hlt]
  · rw [Array.getElem?_setIfInBounds_ne (Ne.symm e), Array.getElem?_modify, if_neg (Ne.symm e)]

theorem body74 : Dn.HasBody Tryz.prog 74 := ⟨_, Tryz.func74, by kernel_rfl, by kernel_rfl⟩
theorem body76 : Dn.HasBody Tryz.prog 76 := ⟨_, Tryz.func76, by kernel_rfl, by kernel_rfl⟩

theorem primAs : Dn.PrimOK Tryz.prog gtT 74 (.errAs 105 107) := by
  intro xs S v S' h
  refine ⟨body74, fun G w args hI hx => ?_⟩
  unfold Dn.primV at h
  split at h <;> try (rename_i e1; cases e1; done)
  · rename_i e1
    cases e1
    simp only [Dn.Rl] at hx
    obtain ⟨u, r, rfl, hu, t, r, rfl, ht, rfl⟩ := hx
    simp only [Dn.Rv] at hu
    subst hu
    cases h
    exact (as_nil t w).mono fun e w' ⟨h1, h2⟩ => by
      subst h1; subst h2
      exact ⟨_, _, _, ⟨rfl, rfl⟩, Dn.Tr.refl hI, by simp only [Dn.Rv]⟩
  · rename_i t tp t' id off tp' tid e1
    cases e1
    cases hb : (Nat.beq 105 t' && Nat.beq 107 tp') with
    | false => rw [hb] at h; cases h
    | true =>
      rw [hb] at h
      simp only [cond_true] at h
      simp only [Bool.and_eq_true] at hb
      obtain rfl := Nat.eq_of_beq_eq_true hb.1
      obtain rfl := Nat.eq_of_beq_eq_true hb.2
      split at h
      · rename_i ty a hbx
        cases h
        simp only [Dn.Rl, Dn.Rv] at hx
        obtain ⟨u, r, rfl, hu, t, r, rfl, ht, rfl⟩ := hx
        obtain ⟨_, rfl, hid, rfl⟩ := hu
        obtain ⟨_, rfl, htid, rfl⟩ := ht
        obtain ⟨_, c, fr, sf, pre, rest, hw, hfr, hcl, hpre⟩ := hI.box tid ty _ hbx
        simp only [Dn.Rl] at hpre
        obtain ⟨u0, r, rfl, _, rfl⟩ := hpre
        have hsz : 0 < c.size := by rw [← Array.length_toList, hcl]; simp
        have hc0 : c[0]? = some u0 := by rw [← Array.getElem?_toList, hcl]; rfl
        refine (as_hit ⟨G.β id, off, none⟩ ⟨G.β tid, 0, none⟩ u0 w (gtT_cell hI) (by simp [World.cell?, hw, hc0]) (by simp only [World.frozen?, hw]; exact hfr.free hsz)).mono fun e w' ⟨h1, h2⟩ => ?_
        subst h1
        generalize hW : (((w.alloc (.cells #[.pointer (some ⟨G.β tid, 0, none⟩)] 107)).alloc (.cells #[.pointer (some ⟨9, 107, none⟩), .pointer (some ⟨w.heap.size, 0, none⟩), .int .u64 150] 149)).alloc (.cells #[.pointer (some ⟨9, 107, none⟩), .pointer (some ⟨w.heap.size, 0, none⟩), .int .u64 150] 149)).alloc (.cells #[.pointer (some ⟨G.β id, off, none⟩)] 105) = W at h2
        have hgr : Dn.Gr w W := by
          subst hW
          exact (((Dn.Gr.push _ _).trans (Dn.Gr.push _ _)).trans (Dn.Gr.push _ _)).trans (Dn.Gr.push _ _)
        clear hW
        have t1 := Dn.Tr.gr hI hgr
        have hw2 : W.heap[G.β tid]? = some (.cells c ty fr) := by rw [hgr.same _ (hI.boxLt tid htid)]; exact hw
        rw [setCell_wBlk _ hw2] at h2
        have t2 := Dn.Tr.boxSet t1.inv (c' := c.setIfInBounds 0 (.pointer (some ⟨G.β id, off, none⟩))) (cs' := [.ptr id off]) (pre' := [.pointer (some ⟨G.β id, off, none⟩)]) (rest := rest) hbx hw2 (by simp) (by simp [hcl]) (by
          refine ⟨_, _, rfl, ?_, rfl⟩
          simp only [Dn.Rv]
          exact ⟨hid, trivial⟩)
        subst h2
        exact ⟨_, _, _, ⟨rfl, rfl⟩, t1.trans t2, by simp only [Dn.Rv]⟩
      · cases h
  · cases h

theorem primIs : Dn.PrimOK Tryz.prog gtT 76 (.errIs 105 26) := by
  intro xs S v S' h
  refine ⟨body76, fun G w args hI hx => ?_⟩
  unfold Dn.primV at h
  split at h <;> try (rename_i e1; cases e1; done)
  · rename_i t ti t' id off ti' n e1
    cases e1
    cases hb : (Nat.beq 105 t' && Nat.beq 26 ti') with
    | false => rw [hb] at h; cases h
    | true =>
      rw [hb] at h
      simp only [cond_true] at h
      simp only [Bool.and_eq_true] at hb
      obtain rfl := Nat.eq_of_beq_eq_true hb.1
      obtain rfl := Nat.eq_of_beq_eq_true hb.2
      split at h
      · rename_i ty cs hbx
        split at h
        · rename_i m hm
          cases hmn : m == n with
          | false => rw [hmn] at h; cases h
          | true =>
            rw [hmn] at h
            cases h
            obtain rfl := eq_of_beq hmn
            simp only [Dn.Rl, Dn.Rv] at hx
            obtain ⟨u, r, rfl, hu, t, r, rfl, ht, rfl⟩ := hx
            obtain ⟨_, rfl, hid, rfl⟩ := hu
            obtain ⟨_, rfl, rfl⟩ := ht
            obtain ⟨_, c, fr, sf, pre, rest, hw, hfr, hcl, hpre⟩ := hI.box id ty cs hbx
            have hc1 : c[off + 1]? = some (.int .i64 m) := by
              rw [← Array.getElem?_toList, hcl]
              obtain ⟨y, hy1, hy2⟩ := Dn.Rl.get hpre hm
              simp only [Dn.Rv] at hy2
              subst hy2
              have q : off + 1 < pre.length := by
                rcases Nat.lt_or_ge (off + 1) pre.length with q | q
                · exact q
                · rw [List.getElem?_eq_none q] at hy1; cases hy1
              rw [List.getElem?_append_left q]
              exact hy1
            refine (is_hit (G.β id) off m w (by simp [World.cell?, hw, hc1])).mono fun e w' ⟨h1, h2⟩ => ?_
            subst h1; subst h2
            exact ⟨_, _, _, ⟨rfl, rfl⟩, Dn.Tr.refl hI, by simp only [Dn.Rv]⟩
        · cases h
      · cases h
  · cases h

theorem prims : Dn.PrimsOK Tryz.prog gtT [(74, .errAs 105 107), (76, .errIs 105 26)] := .cons primAs (.cons primIs .nil)
end Go.Proofs.YthgidapmofcloaaGreatDoor

namespace Go.Proofs.YthgidapmofcloaaGreatDoor
open Go.ChangeShapes Go.WideShapes Go.ChangeAt Go.RowKit

abbrev laid : List (String × DataW Unit) := Rows.treeRunsRow.laid

theorem own : ownKnob Tryz.prog.godebug = none := by kernel_rfl
theorem globET : Tryz.prog.globalNamed "errors.errorType" = some 0 := by kernel_rfl
theorem rtypeIs : (Tryz.prog.cutTypes.find? (·.1 == "internal/reflectlite.rtype")).map (·.2) = some 187 := by kernel_rfl
theorem oneRow : ((List.range 291).filter fun t => Tryz.prog.rowNamed t [101, 114, 114, 111, 114]) = [32] := by kernel_rfl
theorem typesSize : Tryz.prog.types.size = 291 := by kernel_rfl

/-- WHAT THE CONDITION GIVES A WALK. -/
theorem handle_of_laid {W : World} (h : laidMetH Tryz.prog laid W) : W.var? Tryz.prog "errors.errorType" = some #[.iface 187 (.agg #[.pointer (some ⟨9, 32, none⟩)])] := by
  have h' : laidMet Tryz.prog (laid.filter fun x => x.2.handleName?.isNone) W ∧ handlesMet Tryz.prog [("errors.errorType", Rows.laid_errors_errorType)] W := h
  obtain ⟨name, u, ty, e1, e2, e3, e4, e5⟩ := h'.2 _ (List.mem_singleton.2 rfl)
  have en : name = [101, 114, 114, 111, 114] := (Option.some.inj e1).symm
  subst en
  obtain rfl := Option.some.inj (rtypeIs.symm.trans e2)
  have hm : ty ∈ (List.range 291).filter fun t => Tryz.prog.rowNamed t [101, 114, 114, 111, 114] := List.mem_filter.2 ⟨List.mem_range.2 (by rw [← typesSize]; exact e3), e4⟩
  rw [oneRow] at hm
  obtain rfl := List.mem_singleton.1 hm
  have hh : typeHandle Tryz.prog 32 = .pointer (some ⟨9, 32, none⟩) := by kernel_rfl
  rw [hh] at e5
  exact e5

theorem inv_of_laid {W : World} (h : laidMetH Tryz.prog laid W) : Dn.Inv Tryz.prog gtT Dn.St.init (Dn.G0 W) W := by
  refine Dn.inv0g fun g cs hg => ?_
  have hv := handle_of_laid h
  simp only [World.var?, globET, Option.bind_some] at hv
  simp only [Dn.lk] at hg
  cases hb : Nat.beq 0 g with
  | false => rw [hb] at hg; cases hg
  | true =>
    rw [hb] at hg
    obtain rfl := Nat.eq_of_beq_eq_true hb
    cases hg
    split at hv
    · rename_i c ty fr hw
      cases hv
      refine ⟨_, ty, fr, hw, Dn.Rl.single ?_⟩
      simp only [Dn.Rv]
      exact ⟨trivial, rfl⟩
    · cases hv

/-- the settled world, the variable's cell laid -/
noncomputable def handW (os : Os) : World :=
  { World.holding Tryz.prog os ⟨#[], #[], []⟩ with heap := (World.holding Tryz.prog os ⟨#[], #[], []⟩).heap.modify 0 fun
      | .cells _ t frozen => .cells #[.iface 187 (.agg #[.pointer (some ⟨9, 32, none⟩)])] t frozen
      | o => o }

abbrev plain : List (String × DataW Unit) := laid.filter fun x => x.2.handleName?.isNone

/-- A world that meets the condition. -/
noncomputable def laidW (os : Os) : World := (handW os).layVars Tryz.prog plain

theorem laidW_os (os : Os) : (laidW os).os = os := World.layVars_os _ _ _

theorem laidW_fits (os : Os) : (handW os).layFits Tryz.prog plain [] = true := by kernel_rfl
theorem laidW_ifaces (os : Os) : (handW os).layIfaces Tryz.prog plain (laidW os) = true := by kernel_rfl
theorem laidW_hand (os : Os) : (laid.filter fun x => x.2.handleName?.isSome).all (handleAtB Tryz.prog (laidW os)) = true := by kernel_rfl

theorem laidW_met (os : Os) (args : Array Value) : laidMetH Tryz.prog laid ((laidW os).forCall (fun _ _ => 0) ⟨#[], args, []⟩).memory := by
  have e1 : (plain.filter fun x => (plain.map (·.1)).contains x.1) = plain := List.filter_eq_self.2 fun x hx => List.contains_iff_mem.2 (List.mem_map.2 ⟨x, hx, rfl⟩)
  have e2 : (plain.filter fun x => !(plain.map (·.1)).contains x.1) = [] := List.filter_eq_nil_iff.2 fun x hx => by rw [List.contains_iff_mem.2 (List.mem_map.2 ⟨x, hx, rfl⟩)]; simp
  have h : laidMet Tryz.prog plain (laidW os) := laidMet_layVars (w0 := handW os) (plain.map (·.1)) [] (by rw [e1]; rfl) (by rw [e1]; exact laidW_fits os) (by rw [e1]; exact laidW_ifaces os) (by rw [e2]; exact LaidIn.none)
  have h2 : laidMetH Tryz.prog laid (laidW os) := laidMetH_of_parts h (laidW_hand os)
  exact h2.of_heap (by simp [World.memory, World.forCall, Input.heap])

set_option maxRecDepth 1000000 in
theorem ran : Dn.exec2 gtT (fun f => Dn.lk [(74, Dn.PrimK.errAs 105 107), (76, Dn.PrimK.errIs 105 26)] f) (fun f => Dn.lk C1.tab f) 100000 200 3 [] Dn.St.init Dn.retTrue = true := by kernel_rfl

theorem runs {w : World} (h : laidMetH Tryz.prog laid w) : Calls Tryz.prog 3 #[] w fun e w' => e = .returned (.bool true) ∧ Below w.heap.size w w' :=
  Dn.runs_of_exec2 Tryz.checked.mixed C1.tabOK prims ran w (inv_of_laid h)
end Go.Proofs.YthgidapmofcloaaGreatDoor

namespace Go.Proofs.YthgidapmofcloaaGreatDoor.TreeGets
open Go.ChangeShapes Go.WideShapes Go.ChangeAt Go.RowKit Go.Dn

/-! ### the functions, each by its code -/
abbrev A : CallT := AC Tryz.prog gtT
theorem hm : MonoC A := AC_mono
theorem gtSta : GtSta gtT := fun g cs h => by
  simp only [Dn.lk] at h
  cases hb : Nat.beq 0 g with
  | false => rw [hb] at h; cases h
  | true => rw [hb] at h; cases h; exact ⟨trivial, trivial⟩

theorem pf {f : FuncId} {fn : Func} {n : Note} {F : DF} {us : List AV} {u : AV} (hf : Tryz.prog.funcs[f]? = some fn) (hn : (fn.name == "runtime.NumGoroutine") = false) (hp : prepF Tryz.prog n fn = some F) (hs : Stas us) (hw : wpF gtT A F us St.init (Ret u)) : PF A f us u :=
  PF.of_init gtSta hs (AC_intro Tryz.checked.mixed hf hn hp hw)

theorem s1 {a : AV} (h : Sta a) : Stas [a] := ⟨h, trivial⟩
theorem s2 {a b : AV} (h : Sta a) (k : Sta b) : Stas [a, b] := ⟨h, k, trivial⟩
theorem s3 {a b c : AV} (h : Sta a) (k : Sta b) (l : Sta c) : Stas [a, b, c] := ⟨h, k, l, trivial⟩
theorem sS (l : List PS) : Sta (.sl 2 stat (encSs l)) := sta_sl (sta_Ss l)
theorem sK (l : List (List UInt8)) : Sta (.sl 1 stat (strs l)) := sta_sl (sta_strs l)
theorem sP (s : PS) : Sta (encS s) := ⟨trivial, trivial, trivial⟩

theorem indT {Q : PT → Prop} (h : ∀ t, (∀ u, u.n < t.n → Q u) → Q t) (t : PT) : Q t := (measure PT.n).wf.induction t h

theorem laidOut : laidOutB Tryz.prog = true := by kernel_rfl

theorem size3 : ∀ (t : PT) (m : Int), m < 4611686018427387904 → PF A 28 [encT t, .int .i64 m] (.int .i64 (Dn.size3 t m)) :=
  indT fun t ih m h => pf Tryz.func28 (by kernel_rfl) C1.F28_ok (s2 (sta_T t) trivial) (size3_wp hm (fun u hu m h => ih u hu m h) h)
theorem small (t : PT) : PF A 26 [encT t] (.bool (smallB t)) :=
  pf Tryz.func26 (by kernel_rfl) C1.F26_ok (s1 (sta_T t)) (small_wp hm size3)
theorem copyT : ∀ t : PT, t.ok → PF A 31 [encT t] (encT t) :=
  indT fun t ih h => pf Tryz.func31 (by kernel_rfl) C1.F31_ok (s1 (sta_T t)) (copy_wp hm ih h)
theorem copy3 : ∀ t : PT, t.ok → PF A 37 [encT t] (encT t) :=
  indT fun t ih h => pf Tryz.func37 (by kernel_rfl) C1.F37_ok (s1 (sta_T t)) (copy3_wp hm ih h)
theorem own3 (t : PT) (h : t.ok) : A 37 [encT t] St.init (OwnT t) :=
  AC_intro Tryz.checked.mixed Tryz.func37 (by kernel_rfl) C1.F37_ok (copy3Own_wp hm copy3 h)
theorem plain : ∀ t u : PT, t.ok → PF A 32 [encT t, encT u] (.bool (eqT t u)) :=
  indT fun t ih u h => pf Tryz.func32 (by kernel_rfl) C1.F32_ok (s2 (sta_T t) (sta_T u)) (plain_wp hm ih h)
theorem index (keys : List (List UInt8)) (key : List UInt8) (h : keys.length < 4611686018427387904) : PF A 99 [.sl 1 stat (strs keys), .str key] (.int .i64 (plc key keys 0)) :=
  pf Tryz.func99 (by kernel_rfl) C1.F99_ok (s2 (sK keys) trivial) (index_wp hm h)
theorem place (keys : List (List UInt8)) (key : List UInt8) (h : keys.length < 4611686018427387904) : PF A 105 [.sl 1 stat (strs keys), .str key] (.int .i64 (plc key keys 0)) :=
  pf Tryz.func105 (by kernel_rfl) C1.F105_ok (s2 (sK keys) trivial) (place_wp hm h)
theorem part (t : PT) (s : PS) (h : t.ok) : PF A 56 [encT t, encS s] (.int .i64 (atT t s)) :=
  pf Tryz.func56 (by kernel_rfl) C1.F56_ok (s2 (sta_T t) (sP s)) (part_wp hm index h)
theorem at3 (t : PT) (s : PS) (h : t.ok) : PF A 77 [encT t, encS s] (.int .i64 (atT t s)) :=
  pf Tryz.func77 (by kernel_rfl) C1.F77_ok (s2 (sta_T t) (sP s)) (at3_wp hm place h)
theorem get (t : PT) (path : List PS) (h : t.ok) (hp : path.length ≤ 4611686018427387904) : PF A 21 [encT t, .sl 2 stat (encSs path)] (encGet (getT t path)) :=
  pf Tryz.func21 (by kernel_rfl) C1.F21_ok (s2 (sta_T t) (sS path)) (get_wp hm part copyT h hp)
theorem get3 (t : PT) (path : List PS) (h : t.ok) (hp : path.length ≤ 4611686018427387904) : PF A 43 [encT t, .sl 2 stat (encSs path)] (encGet (getT t path)) :=
  pf Tryz.func43 (by kernel_rfl) C1.F43_ok (s2 (sta_T t) (sS path)) (get3_wp hm at3 h hp)
theorem set0 {w : PT} (hw : w.ok) : ∀ (n : Nat) (t : PT) (path : List PS), path.length = n → t.ok → PF A 57 [encT t, encT w, .sl 2 stat (encSs path)] (encGet (setT w t path)) := by
  intro n
  induction n using Nat.strongRecOn with
  | _ n ih =>
    intro t path hn h
    exact pf Tryz.func57 (by kernel_rfl) C1.F57_ok (s3 (sta_T t) (sta_T w) (sS path)) (set_wp hm part copyT (fun u p hu hl => PF.off (pr := [encT u, encT w]) (ih p.length (by omega) u p rfl hu) 1) h hw)
theorem set (t w : PT) (path : List PS) (h : t.ok) (hw : w.ok) (_ : path.length ≤ 4611686018427387904) : PF A 23 [encT t, encT w, .sl 2 stat (encSs path)] (encSet (setT w t path)) :=
  pf Tryz.func23 (by kernel_rfl) C1.F23_ok (s3 (sta_T t) (sta_T w) (sS path)) (setP_wp hm (set0 hw _ t path rfl h))
theorem set30 {w : PT} (hw : w.ok) : ∀ (n : Nat) (t : PT) (path : List PS), path.length = n → t.ok → PF A 44 [encT t, encT w, .sl 2 stat (encSs path)] (encSet (setT w t path)) := by
  intro n
  induction n using Nat.strongRecOn with
  | _ n ih =>
    intro t path hn h
    exact pf Tryz.func44 (by kernel_rfl) C1.F44_ok (s3 (sta_T t) (sta_T w) (sS path)) (set3_wp hm at3 copy3 own3 (fun u p hu hl => PF.off (pr := [encT u, encT w]) (ih p.length (by omega) u p rfl hu) 1) h hw)
theorem set3 (t w : PT) (path : List PS) (h : t.ok) (hw : w.ok) (_ : path.length ≤ 4611686018427387904) : PF A 44 [encT t, encT w, .sl 2 stat (encSs path)] (encSet (setT w t path)) := set30 hw _ t path rfl h
theorem sameS (a : List PS) (h : a.length ≤ 4611686018427387904) : PF A 78 [.sl 2 stat (encSs a), .sl 2 stat (encSs a)] (.bool true) :=
  pf Tryz.func78 (by kernel_rfl) C1.F78_ok (s2 (sS a) (sS a)) (sameS_wp hm h)
theorem roomy (p : List PS) (m : PS) (h : p.length ≤ 1000000) : PF A 42 [.sl 2 stat (encSs p), encS m] (.sl 2 stat (encSs (p ++ List.replicate 80 m))) :=
  pf Tryz.func42 (by kernel_rfl) C1.F42_ok (s2 (sS p) (sP m)) (roomy_wp hm h)
theorem intact (p : List PS) (m : PS) (h : p.length ≤ 1000000) : PF A 45 [.sl 2 stat (encSs (p ++ List.replicate 80 m)), .sl 2 stat (encSs p), encS m] (.bool true) :=
  pf Tryz.func45 (by kernel_rfl) C1.F45_ok (s3 (sS _) (sS p) (sP m)) (intact_wp hm sameS h)

/-! ### the law without arguments -/
theorem runs : PF A 3 [] (.bool true) :=
  PF.of_init gtSta trivial (AC_mono _ _ _ _ _ (exec2_sound Tryz.checked.mixed C1.tabOK prims 200 3 [] St.init retTrue ran) fun r S1 q => by
    cases r with
    | ret x => cases x <;> simp only [retTrue, Bool.false_eq_true] at q; subst q; exact ⟨_, rfl, by simp only [Rdo]⟩
    | pan x => simp [retTrue] at q)

/-! ### the law -/
theorem law {t w : PT} {path : List PS} (hk : t.ok) (hw : w.ok) (hp : path.length ≤ 140737488355328) : A 11 [encT t, encT w, .sl 2 stat (encSs path)] St.init (Ret (.bool true)) :=
  AC_intro Tryz.checked.mixed Tryz.func11 (by kernel_rfl) C1.F11_ok (treeGets_wp hm runs small roomy intact get get3 set set3 plain hk hw hp)

end Go.Proofs.YthgidapmofcloaaGreatDoor.TreeGets

namespace Go.Proofs.YthgidapmofcloaaGreatDoor.TreeGets
open Go.ChangeShapes Go.WideShapes Go.ChangeAt Go.RowKit Go.Dn

theorem walk {W : World} (hI : Inv Tryz.prog gtT St.init (G0 W) W) {args : Array Value} {xs : List AV} {f : FuncId} (hac : A f xs St.init (Ret (.bool true))) (hx : Rl St.init (G0 W) W xs args.toList) : Calls Tryz.prog f args W fun e W' => e = .returned (.bool true) ∧ Below W.heap.size W W' := by
  refine Calls.mono (hac.2 (G0 W) W args.toList hI hx) fun e W' hp => ?_
  cases e with
  | returned v =>
    obtain ⟨x, S', G', ⟨y, hy, hr⟩, t, rv⟩ := hp
    cases hy
    simp only [Rdo] at hr
    subst hr
    refine ⟨?_, below_of_ext t.ext⟩
    simp only [Rv] at rv
    rw [rv]
  | panicked chain =>
    obtain ⟨x, S', G', u, hc, ⟨y, hy, hr⟩, _⟩ := hp
    cases hy
  | outgrown => exact hp.elim

/-! ### what is read -/
theorem types : okTypes Tryz.prog [25, 23, 22, 9, 3, 60, 40] = true := by kernel_rfl
theorem wantsT : Tryz.pinned.checked.prog.wantsStandIn 25 = false := by kernel_rfl
theorem wantsS : Tryz.pinned.checked.prog.wantsStandIn 60 = false := by kernel_rfl

theorem isUb {H : Type} : IsUb (Rows.uptoBulk (H := H)) Rows.uptoBulkAll where
  lit l := by cases l <;> simp [Rows.uptoBulk]
  str s := by simp [Rows.uptoBulk]
  nil := by simp [Rows.uptoBulk]
  slice a b := by simp [Rows.uptoBulk]
  agg a := by simp [Rows.uptoBulk]
  none := by simp [Rows.uptoBulkAll]
  cons d r := by simp [Rows.uptoBulkAll]

set_option maxRecDepth 1000000 in
theorem entryT {H : Type} {enc : TypeId × Value → H} {W : World} {v : Value} {d : DataW H} {p : List MemPlace} {base : Nat} (hv : Value.okWide Tryz.prog W .any base 25 v) (h : DataW.Trod enc Tryz.prog W 0 (fun _ => true) true 25 v d p) :
    ∃ n : PT, Rv St.init (G0 W) W (encT n) v ∧ bulkA (encT n) ≤ Rows.uptoBulk d := by
  obtain ⟨fuel, hf⟩ := h
  obtain ⟨zs, hr, ht, hb⟩ := trod_avb isUb types fuel 25 _ _ (by decide) hf
  obtain ⟨n, hn⟩ := av_tree ht
  refine ⟨n, ?_, ?_⟩
  · rw [← hn]
    obtain ⟨vs, rfl, _⟩ := okWide_struct Tryz.underlying25 hv
    simp only [Rv]
    exact ⟨_, rfl, hr⟩
  · rw [← hn]
    have : sb Tryz.prog 25 = 1 := by unfold sb; rw [Tryz.underlying25]
    rw [this] at hb
    simpa only [bulkA] using hb

set_option maxRecDepth 1000000 in
theorem entryS {H : Type} {enc : TypeId × Value → H} {W : World} {v : Value} {d : DataW H} {p : List MemPlace} {base : Nat} (hv : Value.okWide Tryz.prog W .any base 60 v) (h : DataW.Trod enc Tryz.prog W 0 (fun _ => true) true 60 v d p) :
    ∃ l : List PS, Rv St.init (G0 W) W (.sl 2 stat (encSs l)) v ∧ l.length ≤ Rows.uptoBulk d := by
  obtain ⟨a, len, cap, rfl⟩ := okWide_slice u_steps hv
  obtain ⟨fuel, hf⟩ := h
  obtain ⟨zs, hr, ht, hb⟩ := trod_avb isUb types fuel 60 _ _ (by decide) hf
  obtain ⟨l, rfl⟩ := av_steps ht
  have hu : (Value.slice a len cap).cells.toList = [.slice a len cap] := rfl
  rw [hu] at hr
  simp only [Rl] at hr
  obtain ⟨u, r, e1, e2, rfl⟩ := hr
  cases e1
  refine ⟨l, e2, ?_⟩
  have := bulk_Ss l
  simp only [bulkAs, bulkA] at hb
  omega

/-! ### the row -/
abbrev zeroTree : Value := .agg #[.int .i64 0, .string .empty, .slice none 0 0, .slice none 0 0]
abbrev zeroData (H : Type) : DataW H := .agg [.lit (.int .i64 0), .lit (.string []), .nil, .nil]
abbrev zeros : Array Value := #[zeroTree, zeroTree, .slice none 0 0]

theorem reads (os : Os) {H : Type} (enc : TypeId × Value → H) : ∃ places, DataW.whole enc Tryz.prog ((laidW os).forCall (fun _ _ => 0) ⟨#[], zeros, []⟩).memory Tryz.f11.params.toList Rows.treeGetsSpec.vars false zeros.toList 8 = some ([zeroData H, zeroData H, .nil], [], places) :=
  ⟨[], by kernel_rfl⟩

set_option maxRecDepth 100000 in
theorem lifted (os : Os) (started : os.Started) (H : Type) (enc : TypeId × Value → H) (F : Stop.Interp) :
    ReturnsInHanded {} Tryz.checked os 11 .any ((Rows.OpenSpec.upto Rows.treeGetsSpec).preRow enc Tryz.prog Tryz.f11 Rows.treeGetsUptoRow.domain false Rows.treeGetsUptoRow.laid)
      (((Rows.OpenSpec.upto Rows.treeGetsSpec).at F).post enc Tryz.prog Tryz.f11 false true false false) := by
  obtain ⟨places, hx⟩ := reads os enc
  refine returnsInHanded_of_row (C := Tryz.checked) (s := Rows.OpenSpec.upto Rows.treeGetsSpec) own started (by kernel_rfl) Tryz.func11
    (witness_row_atRef (enc := enc) (C := Tryz.checked) false (laidW os) zeros (laidW_os _) (by kernel_rfl) (by kernel_rfl) (by kernel_rfl)
      (OpenSpec.preRow_of_cond 8 hx (by kernel_rfl) (fun k hk => by cases hk; kernel_rfl) (by kernel_rfl) (laidW_met os _))) ?_
  intro W base args ds gs before hval0 hW _ hcond _ hL _ _
  have hval : ∀ (j : Nat) t v, Tryz.f11.params[j]? = some t → args[j]? = some v → Value.okWide Tryz.prog W .any base t v := hval0
  have hW' := hW
  obtain ⟨p, q, hA0, hV, rfl, hfz, hnd⟩ := hW
  have hA : DataW.TrodAll enc Tryz.prog W 0 (fun _ => true) true Tryz.f11.params.toList args.toList ds p := hA0
  rw [Tryz.params11] at hA hval
  obtain ⟨v0, v1, v2, d0, d1, d2, p0, p1, p2, rfl, rfl, rfl, h0, h1, h2⟩ := trodAll_three hA
  obtain ⟨rfl, rfl⟩ := trodVars_none hV
  clear hA0 hval0
  simp only [List.append_nil] at hW'
  have hb : Rows.uptoBulkAll [d0, d1, d2] ≤ 1048576 := by
    have := hcond _ rfl
    rw [List.append_nil] at this
    exact of_decide_eq_true this
  simp only [Rows.uptoBulkAll] at hb
  obtain ⟨t, hv0, hb0⟩ := entryT (hval 0 25 v0 rfl rfl) h0
  obtain ⟨w, hv1, hb1⟩ := entryT (hval 1 25 v1 rfl rfl) h1
  obtain ⟨l, hv2, hb2⟩ := entryS (hval 2 60 v2 rfl rfl) h2
  refine (walk (inv_of_laid hL) (law (bulk_T t (by omega)) (bulk_T w (by omega)) (by omega)) (Rl.cons hv0 (Rl.cons hv1 (Rl.cons hv2 Rl.nil)))).mono fun e W' ⟨he, bel⟩ => ?_
  subst he
  have hlt : ∀ x ∈ p0 ++ (p1 ++ p2), x.block < W.heap.size := fun x hx => hW'.lt x (by simpa only [List.append_assoc] using hx)
  exact ⟨_, rfl, _, _, _, [], _, [], hW', trodAll_mk1 (shut_bool Tryz.underlying4 _),
    trodAll_mk3 (Below.trod laidOut (by kernel_rfl) (of_decide_eq_true (by kernel_rfl)) h0 bel (fun x hx => hlt x (by simp [hx]))) (Below.trod laidOut (by kernel_rfl) (of_decide_eq_true (by kernel_rfl)) h1 bel (fun x hx => hlt x (by simp [hx]))) (Below.trod laidOut (by kernel_rfl) (of_decide_eq_true (by kernel_rfl)) h2 bel (fun x hx => hlt x (by simp [hx]))), rfl, bel.frame _, fun h => by cases h⟩

end Go.Proofs.YthgidapmofcloaaGreatDoor.TreeGets
