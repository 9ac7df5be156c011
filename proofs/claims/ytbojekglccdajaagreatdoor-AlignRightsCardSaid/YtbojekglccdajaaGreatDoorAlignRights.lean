/- 'emendlaw13.AlignRights' returns true, whatever the list and the number; both read afterwards as they did. The statement is the tied card. The two functions that it holds against each other are walked over abstract code (Dn, the author's small language, proved sound against the model), each once; the law without arguments that it ends with is run by the kernel. -/
import Derived.Test.YtbojekglccdajaaGreatDoorTie
import Derived.Test.YtbojekglccdajaaGreatDoorCards
import Derived.Test.YtbojekglccdajaaGreatDoorRights
import Derived.Test.YtbojekglccdajaaGreatDoorDnZ
import Derived.ProofKit
import Derived.LaidMore
import Derived.OpenShut
import Derived.Carry
import Derived.Stop.Joined
import Derived.Lay
import Derived.SevenTiedAt
namespace Go.Proofs.YtbojekglccdajaaGreatDoor.AlignRights
open Go.ChangeShapes Go.WideShapes Go.ChangeAt Go.RowKit

theorem own : ownKnob Tryz.prog.godebug = none := by kernel_rfl
theorem laidOut : laidOutB Tryz.prog = true := by kernel_rfl

set_option maxRecDepth 1000000 in
theorem ran : Dn.exec2 [] (fun f => Dn.lk [] f) (fun f => Dn.lk C1.tab f) 100000 200 3 [] Dn.St.init Dn.retTrue = true := by kernel_rfl

theorem runs (w : World) : Calls Tryz.prog 3 #[] w fun e w' => e = .returned (.bool true) ∧ Below w.heap.size w w' :=
  Dn.runs_of_exec2 Tryz.checked.mixed C1.tabOK .nil ran w Dn.inv0

theorem ac3 (S : Dn.St) : Dn.AC Tryz.prog [] 3 [] S fun r S' => r = .ret (.bool true) ∧ S' = S :=
  Dn.AC_closed ⟨Tryz.f3, Tryz.func3, by kernel_rfl, by kernel_rfl⟩ runs S

theorem ac17 (off : Nat) (cap : Option Nat) (nl : Bool) (xs : List Int) (n : Int) (S : Dn.St) (h : xs.length < 9223372036854775808) : Dn.AC Tryz.prog [] 17 [.sl 1 ⟨none, off, cap, nl⟩ (Dn.ints xs), .int .i64 n] S fun r _ => r = .ret (.bool (Dn.pairR n xs [])) :=
  Dn.AC_intro Tryz.checked.mixed Tryz.func17 (by kernel_rfl) C1.F17_ok (Dn.right_wp Dn.AC_mono off cap nl xs h n S _ fun _ => rfl)

theorem ac23 (off : Nat) (cap : Option Nat) (nl : Bool) (xs : List Int) (n : Int) (S : Dn.St) (h : xs.length < 9223372036854775808) : Dn.AC Tryz.prog [] 23 [.sl 1 ⟨none, off, cap, nl⟩ (Dn.ints xs), .int .i64 n] S fun r _ => r = .ret (.bool (Dn.pairR n xs [])) :=
  Dn.AC_intro Tryz.checked.mixed Tryz.func23 (by kernel_rfl) C1.F23_ok (Dn.refRight_wp Dn.AC_mono off cap nl xs h n S _ fun _ => rfl)

set_option maxRecDepth 1000000 in
theorem ac5 (off : Nat) (cap : Option Nat) (nl : Bool) (xs : List Int) (n : Int) (S : Dn.St) (h : xs.length < 9223372036854775808) : Dn.AC Tryz.prog [] 5 [.sl 1 ⟨none, off, cap, nl⟩ (Dn.ints xs), .int .i64 n] S fun r _ => r = .ret (.bool true) :=
  Dn.AC_intro Tryz.checked.mixed Tryz.func5 (by kernel_rfl) C1.F5_ok (Dn.law_wp (gt := []) (C := Dn.AC Tryz.prog []) Dn.AC_mono (fun S => ac3 S) (fun off cap nl xs n S h => ac17 off cap nl xs n S h) (fun off cap nl xs n S h => ac23 off cap nl xs n S h) off cap nl xs h n S)

theorem types : Dn.okTypes Tryz.prog [22, 3] = true := by kernel_rfl
theorem agg3 : Dn.isAggP Tryz.prog 3 = some false := by kernel_rfl
theorem under22 : Tryz.prog.underlying 22 = some (.slice 3) := by kernel_rfl
theorem under3 : Tryz.prog.underlying 3 = some (.int .i64) := by kernel_rfl
theorem wants22 : Tryz.pinned.checked.prog.wantsStandIn 22 = false := by kernel_rfl
theorem wants3 : Tryz.pinned.checked.prog.wantsStandIn 3 = false := by kernel_rfl
theorem size3 : Tryz.prog.cellsOf 3 = 1 := by kernel_rfl

set_option maxRecDepth 1000000 in
/-- a list of numbers that is read as data -/
theorem entry {H : Type} {enc : TypeId × Value → H} {W : World} {base : Nat} {v : Value} {d : DataW H} {p : List MemPlace} (hv : Value.okWide Tryz.prog W .any base 22 v) (h : DataW.Trod enc Tryz.prog W 0 (fun _ => true) true 22 v d p) :
    ∃ nl xs, xs.length ≤ maxLen ∧ Dn.Rv Dn.St.init (Dn.G0 W) W (.sl 1 ⟨none, 0, none, nl⟩ (Dn.ints xs)) v := by
  obtain ⟨a, len, cap, rfl⟩ := okWide_slice under22 hv
  obtain ⟨fuel, hf⟩ := h
  obtain ⟨zs, hr, ht⟩ := Dn.trod_av types fuel 22 _ _ (by decide) hf
  cases fuel with
  | zero => exact ht.elim
  | succ fuel =>
    unfold Dn.AVT at ht
    rw [under22] at ht
    obtain ⟨nl, ys, rfl, hl, hy⟩ := ht
    simp only [Dn.Rl] at hr
    obtain ⟨u, r, e1, e2, rfl⟩ := hr
    have hu : u = .slice a len cap := by
      have : (Value.slice a len cap).cells.toList = [.slice a len cap] := rfl
      rw [this] at e1
      cases e1; rfl
    subst hu
    have hints : ∃ xs, ys = Dn.ints xs := by
      clear e2 hl e1
      induction ys with
      | nil => exact ⟨[], rfl⟩
      | cons y ys ih =>
        obtain ⟨xs, rfl⟩ := ih fun z hz => hy z (by simp [hz])
        obtain ⟨k1, _, k3⟩ := hy y (by simp)
        rw [k3 agg3] at k1
        cases fuel with
        | zero => exact k1.elim
        | succ fuel =>
          unfold Dn.AVT at k1
          rw [under3] at k1
          obtain ⟨n, hn, _⟩ := k1
          cases hn
          exact ⟨n :: xs, rfl⟩
    obtain ⟨xs, rfl⟩ := hints
    refine ⟨nl, xs, by simpa [Dn.ints] using hl, ?_⟩
    rw [size3] at e2
    exact e2

theorem walk (W : World) (nl : Bool) (xs : List Int) (h : xs.length < 9223372036854775808) (n : Int) (v : Value) (hv : Dn.Rv Dn.St.init (Dn.G0 W) W (.sl 1 ⟨none, 0, none, nl⟩ (Dn.ints xs)) v) :
    Calls Tryz.prog 5 #[v, .int .i64 n] W fun e W' => e = .returned (.bool true) ∧ Below W.heap.size W W' := by
  refine Calls.mono ((ac5 0 none nl xs n Dn.St.init h).2 (Dn.G0 W) W [v, .int .i64 n] Dn.inv0 (Dn.Rl.cons hv (Dn.Rl.cons (by simp only [Dn.Rv]) Dn.Rl.nil))) fun e W' hp => ?_
  cases e with
  | returned u =>
    obtain ⟨x, S', G', hx, t, rv⟩ := hp
    cases hx
    refine ⟨?_, Dn.below_of_ext t.ext⟩
    simp only [Dn.Rv] at rv
    rw [rv]
  | panicked chain =>
    obtain ⟨x, S', G', u, hc, q, _⟩ := hp
    cases q
  | outgrown => exact hp.elim

set_option maxRecDepth 100000 in
theorem lifted (os : Os) (started : os.Started) (H : Type) (enc : TypeId × Value → H) :
    ReturnsInHanded {} Tryz.checked os 5 .any (fun w args => (Rows.alignRightsSpec.pre enc Tryz.prog Tryz.f5 [] false w args ∧ laidMetH Tryz.prog Rows.alignRightsRow.laid w) ∧ sizedMet enc Tryz.prog Tryz.f5 (OpenSpec.ofChange Rows.alignRightsSpec) false w args)
      (Rows.alignRightsSpec.post enc Tryz.prog Tryz.f5 false true false false) := by
  refine returnsInHanded_of_change_and (C := Tryz.checked) (X := fun w _ => laidMetH Tryz.prog Rows.alignRightsRow.laid w) (fun _ _ _ hh h => h.of_heap hh) own started (by kernel_rfl) Tryz.func5
    (ChangeSpec.witness_shaped (enc := enc) (C := Tryz.checked) (os := os) (X := fun w _ => laidMetH Tryz.prog Rows.alignRightsRow.laid w) false (World.laidAll Tryz.prog os Rows.alignRightsRow.laid) #[.slice none 0 0, .int .i64 0] 8 (World.laidAll_os _ _ _)
      (World.shaped_of_ZipB (by kernel_rfl) (by kernel_rfl)) (by kernel_rfl) (by kernel_rfl) (by kernel_rfl)
      (by rw [MakeChecks.laidMetH_plain _ _ _ (by kernel_rfl)]; exact laidMet_laidAll _ (by kernel_rfl) (by kernel_rfl))) ?_
  intro W base args ds gs before hval0 hW _ _ hL hsz
  have hval : ∀ (j : Nat) t v, Tryz.f5.params[j]? = some t → args[j]? = some v → Value.okWide Tryz.prog W .any base t v := hval0
  have hW' := hW
  obtain ⟨p, q, hA0, hV, rfl, hfz, hnd⟩ := hW
  have hA : DataW.TrodAll enc Tryz.prog W 0 (fun _ => true) true Tryz.f5.params.toList args.toList ds p := hA0
  rw [Tryz.params5] at hA hval
  obtain ⟨v0, v1, d0, d1, p0, p1, rfl, rfl, rfl, h0, h1⟩ := trodAll_two hA
  obtain ⟨rfl, rfl⟩ := trodVars_none hV
  clear hA0 hval0
  simp only [List.append_nil] at hW'
  have h0k := h0
  have h1k := h1
  obtain ⟨nl, xs, hl, hv⟩ := entry (hval 0 22 v0 rfl rfl) h0
  obtain ⟨n, rfl, rfl, rfl, wn⟩ := open_int under3 (hval 1 3 v1 rfl rfl) h1
  have hxl : xs.length < 9223372036854775808 := by
    have : maxLen = 9223372036854775807 := rfl
    omega
  refine (walk W nl xs hxl n v0 hv).mono fun e W' ⟨he, bel⟩ => ?_
  subst he
  have hlt : ∀ x ∈ p0 ++ [], x.block < W.heap.size := fun x hx => hW'.lt x hx
  exact ⟨_, rfl, _, _, _, [], _, [], hW', trodAll_mk1 (shut_bool Tryz.underlying4 _),
    trodAll_mk2 (Below.trod laidOut (by kernel_rfl) (of_decide_eq_true (by kernel_rfl)) h0k bel (fun x hx => hlt x (by simp [hx]))) (Below.trod laidOut (by kernel_rfl) (of_decide_eq_true (by kernel_rfl)) h1k bel (fun x hx => by cases hx)), rfl, bel.frame _, fun h => by cases h⟩

theorem row : Rows.AlignRightsSaid :=
  OpenClaim.holds_of_wide 5 Tryz.f5 rfl rfl rfl rfl rfl rfl rfl ⟨rfl, rfl, rfl, rfl, rfl⟩ rfl rfl rfl rfl rfl (by kernel_rfl) Tryz.func5 (by kernel_rfl)
    (of_decide_eq_true (by kernel_rfl)) (by unfold Func.isWrapper; first | (rw [if_pos (by decide +kernel)]; kernel_rfl) | (rw [if_neg (by decide +kernel)]; exact ⟨rfl, rfl⟩))
    (fun os started H enc _ => lifted os started H enc)

/-- THE STATEMENT -/
theorem proved : Rows.AlignRightsCardSaid :=
  Claim7.holds_tied_plain_at .later [] [.data, .data, .data, .data, .sentinel, .sentinel, .pinned] true _ true row (fun _ h => by cases h) (by kernel_rfl) (fun _ h => by cases h)
    alignRights_row_tie rfl ⟨rfl, rfl⟩ (by kernel_rfl) (by decide)
    (fun f fn h1 h2 => by
      obtain rfl : f = 5 := Option.some.inj (h1.symm.trans (by kernel_rfl))
      obtain rfl : fn = Tryz.f5 := Option.some.inj (h2.symm.trans Tryz.func5)
      refine ⟨by kernel_rfl, fun j t hj => ?_⟩
      rw [Tryz.params5] at hj
      match j, hj with
      | 0, hj => cases hj; exact wants22
      | 1, hj => cases hj; exact wants3
      | _ + 2, hj => cases hj)
    (by kernel_rfl)
#print axioms proved
end Go.Proofs.YtbojekglccdajaaGreatDoor.AlignRights
