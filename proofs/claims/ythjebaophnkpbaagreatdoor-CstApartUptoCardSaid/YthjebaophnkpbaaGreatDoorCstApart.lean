/- 'emendlaw4.CstApart' returns true, whatever the node, where all that is read is of bulk at most 1048576 (the second form); it reads afterwards as it did. The statement is the tied card. The functions that the law reaches are walked over abstract code (Dn, the author's small language, proved sound against the model), each once; the law without arguments that it ends with is run by the kernel. -/
import Derived.Test.YthjebaophnkpbaaGreatDoorTie
import Derived.Test.YthjebaophnkpbaaGreatDoorCards
import Derived.ProofKit
import Derived.LaidMore
import Derived.OpenShut
import Derived.Carry
import Derived.Stop.Joined
import Derived.Lay
import Derived.SevenTiedAt
import Derived.Deep.DeepHandedRow
import Derived.Deep.DeepWitnessRowRef
import Derived.Test.YthjebaophnkpbaaGreatDoorAn
set_option linter.unusedSimpArgs false
set_option linter.unusedVariables false
namespace Go.Proofs.YthjebaophnkpbaaGreatDoor.CstApart
open Go.ChangeShapes Go.WideShapes Go.ChangeAt Go.RowKit Go.Dn

theorem own : ownKnob Tryz.prog.godebug = none := by kernel_rfl
theorem laidOut : laidOutB Tryz.prog = true := by kernel_rfl

/-! ### the functions, each by its code -/
abbrev A : CallT := AC Tryz.prog []
theorem hm : MonoC A := AC_mono

theorem pf {f : FuncId} {fn : Func} {n : Note} {F : DF} {us : List AV} {u : AV} (hf : Tryz.prog.funcs[f]? = some fn) (hn : (fn.name == "runtime.NumGoroutine") = false) (hp : prepF Tryz.prog n fn = some F) (hs : Stas us) (hw : wpF [] A F us St.init (Ret u)) : PF A f us u :=
  PF.of_init (fun g cs h => by cases h) hs (AC_intro Tryz.checked.mixed hf hn hp hw)

theorem s1 {a : AV} (h : Sta a) : Stas [a] := ⟨h, trivial⟩
theorem s2 {a b : AV} (h : Sta a) (k : Sta b) : Stas [a, b] := ⟨h, k, trivial⟩
theorem s3 {a b c : AV} (h : Sta a) (k : Sta b) (l : Sta c) : Stas [a, b, c] := ⟨h, k, l, trivial⟩

theorem indT {Q : PT → Prop} (h : ∀ t, (∀ u, u.n < t.n → Q u) → Q t) (t : PT) : Q t := (measure PT.n).wf.induction t h
theorem indN {Q : PN → Prop} (h : ∀ t, (∀ u, u.n < t.n → Q u) → Q t) (t : PN) : Q t := (measure PN.n).wf.induction t h

theorem size3 : ∀ (t : PT) (m : Int), m < 4611686018427387904 → PF A 43 [encT t, .int .i64 m] (.int .i64 (Dn.size3 t m)) :=
  indT fun t ih m h => pf Tryz.func43 (by kernel_rfl) C1.F43_ok (s2 (sta_T t) trivial) (size3_wp hm (fun u hu m h => ih u hu m h) h)
theorem copyT : ∀ t : PT, t.ok → PF A 49 [encT t] (encT t) :=
  indT fun t ih h => pf Tryz.func49 (by kernel_rfl) C1.F49_ok (s1 (sta_T t)) (copy_wp hm ih h)
theorem copyTO (t : PT) (h : t.ok) : A 49 [encT t] St.init (OwnT t) :=
  AC_intro Tryz.checked.mixed Tryz.func49 (by kernel_rfl) C1.F49_ok (copyOwn_wp hm copyT h)
theorem copyT3 : ∀ t : PT, t.ok → PF A 44 [encT t] (encT t) :=
  indT fun t ih h => pf Tryz.func44 (by kernel_rfl) C1.F44_ok (s1 (sta_T t)) (copy3_wp hm ih h)
theorem plain : ∀ t u : PT, t.ok → PF A 21 [encT t, encT u] (.bool (eqT t u)) :=
  indT fun t ih u h => pf Tryz.func21 (by kernel_rfl) C1.F21_ok (s2 (sta_T t) (sta_T u)) (plain_wp hm ih h)
theorem sizeN : ∀ (t : PN) (m : Int), t.ok → m < 2305843009213693952 → PF A 16 [encN t, .int .i64 m] (.int .i64 (Dn.sizeN t m)) :=
  indN fun t ih m h k => pf Tryz.func16 (by kernel_rfl) C1.F16_ok (s2 (sta_N t) trivial) (sizeN_wp hm size3 ih h k)
theorem copyN : ∀ t : PN, t.ok → PF A 24 [encN t] (encN t) :=
  indN fun t ih h => pf Tryz.func24 (by kernel_rfl) C1.F24_ok (s1 (sta_N t)) (copyN_wp hm copyT ih h)
theorem copyNO (t : PN) (h : t.ok) : A 24 [encN t] St.init (OwnN t) :=
  AC_intro Tryz.checked.mixed Tryz.func24 (by kernel_rfl) C1.F24_ok (copyNOwn_wp hm copyTO copyN h)
theorem copyN4 : ∀ t : PN, t.ok → PF A 17 [encN t] (encN t) :=
  indN fun t ih h => pf Tryz.func17 (by kernel_rfl) C1.F17_ok (s1 (sta_N t)) (copyN3_wp hm copyT3 ih h)
theorem same : ∀ t u : PN, t.ok → PF A 23 [encN t, encN u] (.bool (eqN t u)) :=
  indN fun t ih u h => pf Tryz.func23 (by kernel_rfl) C1.F23_ok (s2 (sta_N t) (sta_N u)) (sameN_wp hm plain ih h)
/-! ### the law without arguments -/
set_option maxRecDepth 1000000 in
theorem ran : exec2 [] (fun f => lk [] f) (fun f => lk C1.tab f) 100000 200 3 [] St.init retTrue = true := by kernel_rfl
theorem runs : PF A 3 [] (.bool true) := fun S =>
  AC_closed ⟨Tryz.f3, Tryz.func3, by kernel_rfl, by kernel_rfl⟩ (fun w => runs_of_exec2 Tryz.checked.mixed C1.tabOK .nil ran w inv0) S

/-! ### the law -/
theorem law {n : PN} (hk : n.ok) : A 6 [encN n] St.init (Ret (.bool true)) :=
  AC_intro Tryz.checked.mixed Tryz.func6 (by kernel_rfl) C1.F6_ok (cstApart_wp hm runs sizeN copyN4 copyNO same hk)

theorem walk {W : World} {args : Array Value} {xs : List AV} {f : FuncId} (hac : A f xs St.init (Ret (.bool true))) (hx : Rl St.init (G0 W) W xs args.toList) : Calls Tryz.prog f args W fun e W' => e = .returned (.bool true) ∧ Below W.heap.size W W' := by
  refine Calls.mono (hac.2 (G0 W) W args.toList inv0 hx) fun e W' hp => ?_
  cases e with
  | returned v =>
    obtain ⟨x, S', G', ⟨y, hy, hr⟩, t, rv⟩ := hp
    cases hy
    simp only [Rdo] at hr
    subst hr
    refine ⟨?_, below_of_ext t.ext⟩
    simp only [Rv] at rv
    rw [rv]
  | panicked chain =>
    obtain ⟨x, S', G', u, hc, ⟨y, hy, hr⟩, _⟩ := hp
    cases hy
  | outgrown => exact hp.elim

/-! ### what is read -/
theorem types : okTypes Tryz.prog [28, 26, 25, 23, 22, 9, 3] = true := by kernel_rfl
theorem wantsN : Tryz.pinned.checked.prog.wantsStandIn 28 = false := by kernel_rfl

theorem isUb {H : Type} : IsUb (Rows.uptoBulk (H := H)) Rows.uptoBulkAll where
  lit l := by cases l <;> simp [Rows.uptoBulk]
  str s := by simp [Rows.uptoBulk]
  nil := by simp [Rows.uptoBulk]
  slice a b := by simp [Rows.uptoBulk]
  agg a := by simp [Rows.uptoBulk]
  none := by simp [Rows.uptoBulkAll]
  cons d r := by simp [Rows.uptoBulkAll]

set_option maxRecDepth 1000000 in
theorem entryN {H : Type} {enc : TypeId × Value → H} {W : World} {v : Value} {d : DataW H} {p : List MemPlace} {base : Nat} (hv : Value.okWide Tryz.prog W .any base 28 v) (h : DataW.Trod enc Tryz.prog W 0 (fun _ => true) true 28 v d p) :
    ∃ n : PN, Rv St.init (G0 W) W (encN n) v ∧ bulkA (encN n) ≤ Rows.uptoBulk d := by
  obtain ⟨fuel, hf⟩ := h
  obtain ⟨zs, hr, ht, hb⟩ := trod_avb isUb types fuel 28 _ _ (by decide) hf
  obtain ⟨n, hn⟩ := av_node ht
  refine ⟨n, ?_, ?_⟩
  · rw [← hn]
    obtain ⟨vs, rfl, _⟩ := okWide_struct Tryz.underlying28 hv
    simp only [Rv]
    exact ⟨_, rfl, hr⟩
  · rw [← hn]
    have : sb Tryz.prog 28 = 1 := by unfold sb; rw [Tryz.underlying28]
    rw [this] at hb
    simpa only [bulkA] using hb

/-! ### the row -/
abbrev zeroNode : Value := .agg #[.int .i64 0, .string .empty, .string .empty, .string .empty, .int .i64 0, .string .empty, .slice none 0 0, .slice none 0 0, .string .empty, .slice none 0 0, .slice none 0 0, .string .empty, .string .empty, .int .i64 0]
abbrev zeroData (H : Type) : DataW H := .agg [.lit (.int .i64 0), .lit (.string []), .lit (.string []), .lit (.string []), .agg [.lit (.int .i64 0), .lit (.string []), .nil, .nil], .lit (.string []), .nil, .nil, .lit (.string []), .lit (.string []), .lit (.int .i64 0)]
noncomputable abbrev laidW (os : Os) : World := World.laidAll Tryz.prog os Rows.cstApartUptoRow.laid

theorem laid_met (os : Os) : laidMetH Tryz.prog Rows.cstApartUptoRow.laid ((laidW os).forCall (fun _ _ => 0) ⟨#[], #[zeroNode], []⟩).memory := by
  rw [MakeChecks.laidMetH_plain _ _ _ (by kernel_rfl)]; exact laidMet_laidAll _ (by kernel_rfl) (by kernel_rfl)
theorem reads (os : Os) {H : Type} (enc : TypeId × Value → H) : ∃ places, DataW.whole enc Tryz.prog ((laidW os).forCall (fun _ _ => 0) ⟨#[], #[zeroNode], []⟩).memory Tryz.f6.params.toList Rows.cstApartSpec.vars false #[zeroNode].toList 8 = some ([zeroData H], [], places) :=
  ⟨[], by kernel_rfl⟩

set_option maxRecDepth 100000 in
theorem lifted (os : Os) (started : os.Started) (H : Type) (enc : TypeId × Value → H) (F : Stop.Interp) :
    ReturnsInHanded {} Tryz.checked os 6 .any ((Rows.OpenSpec.upto Rows.cstApartSpec).preRow enc Tryz.prog Tryz.f6 Rows.cstApartUptoRow.domain false Rows.cstApartUptoRow.laid)
      (((Rows.OpenSpec.upto Rows.cstApartSpec).at F).post enc Tryz.prog Tryz.f6 false true false false) := by
  obtain ⟨places, hx⟩ := reads os enc
  refine returnsInHanded_of_row (C := Tryz.checked) (s := Rows.OpenSpec.upto Rows.cstApartSpec) own started (by kernel_rfl) Tryz.func6
    (witness_row_atRef (enc := enc) (C := Tryz.checked) false (laidW os) #[zeroNode] (World.laidAll_os _ _ _) (by kernel_rfl) (by kernel_rfl) (by kernel_rfl)
      (OpenSpec.preRow_of_cond 8 hx (by kernel_rfl) (fun k hk => by cases hk; kernel_rfl) (by kernel_rfl) (laid_met os))) ?_
  intro W base args ds gs before hval0 hW _ hcond _ hL _ _
  have hval : ∀ (j : Nat) t v, Tryz.f6.params[j]? = some t → args[j]? = some v → Value.okWide Tryz.prog W .any base t v := hval0
  have hW' := hW
  obtain ⟨p, q, hA0, hV, rfl, hfz, hnd⟩ := hW
  have hA : DataW.TrodAll enc Tryz.prog W 0 (fun _ => true) true Tryz.f6.params.toList args.toList ds p := hA0
  rw [Tryz.params6] at hA hval
  obtain ⟨v0, d0, rfl, rfl, h0⟩ := trodAll_one hA
  obtain ⟨rfl, rfl⟩ := trodVars_none hV
  clear hA0 hval0
  simp only [List.append_nil] at hW'
  have hb : Rows.uptoBulkAll [d0] ≤ 1048576 := by
    have := hcond _ rfl
    rw [List.append_nil] at this
    exact of_decide_eq_true this
  simp only [Rows.uptoBulkAll] at hb
  obtain ⟨n, hv0, hb0⟩ := entryN (hval 0 28 v0 rfl rfl) h0
  have hk := bulk_N0 n (by omega)
  refine (walk (law hk) (Rl.cons hv0 Rl.nil)).mono fun e W' ⟨he, bel⟩ => ?_
  subst he
  have hlt : ∀ x ∈ p, x.block < W.heap.size := fun x hx => hW'.lt x hx
  exact ⟨_, rfl, _, _, _, [], _, [], hW', trodAll_mk1 (shut_bool Tryz.underlying4 _),
    trodAll_mk1 (Below.trod laidOut (by kernel_rfl) (of_decide_eq_true (by kernel_rfl)) h0 bel (fun x hx => hlt x hx)), rfl, bel.frame _, fun h => by cases h⟩

theorem row : Rows.CstApartUptoSaid :=
  OpenClaim.holds_of_cond 6 Tryz.f6 rfl rfl rfl rfl rfl rfl rfl ⟨rfl, rfl, rfl, rfl, rfl⟩ rfl rfl rfl rfl rfl (by kernel_rfl) Tryz.func6 (by kernel_rfl)
    (of_decide_eq_true (by kernel_rfl)) (by unfold Func.isWrapper; first | (rw [if_pos (by decide +kernel)]; kernel_rfl) | (rw [if_neg (by decide +kernel)]; exact ⟨rfl, rfl⟩))
    (fun os started H enc _ F => by rw [OpenClaim.pre_eq_preRow]; exact lifted os started H enc F)

/-- THE STATEMENT -/
theorem proved : Rows.CstApartUptoCardSaid :=
  Claim7.holds_tied_plain_at .later [] _ _ _ _ row (fun _ h => by cases h) (by kernel_rfl) (fun _ h => by cases h)
    cstApartUpto_row_tie rfl ⟨rfl, rfl⟩ (by kernel_rfl) rfl
    (fun f fn h1 h2 => by
      obtain rfl : f = 6 := Option.some.inj (h1.symm.trans (by kernel_rfl))
      obtain rfl : fn = Tryz.f6 := Option.some.inj (h2.symm.trans Tryz.func6)
      refine ⟨by kernel_rfl, fun j t hj => ?_⟩
      rw [Tryz.params6] at hj
      match j, hj with
      | 0, hj => cases hj; exact wantsN
      | _ + 1, hj => cases hj)
    (by kernel_rfl)
#print axioms proved
end Go.Proofs.YthjebaophnkpbaaGreatDoor.CstApart
