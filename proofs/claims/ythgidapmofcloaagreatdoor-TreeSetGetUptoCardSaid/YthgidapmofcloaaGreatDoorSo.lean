/- errors.As and errors.Is at the targets that 'refused' hands them ('**text.Refusal', 'api.Errno'), walked after the worked proofs of toyas and sentry; then as contracts over the abstract store. errors.As and errors.Is as contracts over the abstract store. What the listed variables give: 'errors.errorType' holds the handle of the type 'error'; a world that meets the condition; the law without arguments, run by the kernel. Functions of the library by the contracts of the kit's shelf, as pure functions over the abstract store. The functions that laws about trees reach, as contracts, each by its code. Trees: what is set is got, and what lies apart stays. The law TreeSetGet, walked. The law TreeSetGet, walked from its beginning. 'emendlaw3.TreeSetGet' as a contract; that what is read is right where little is read. The row of 'emendlaw3.TreeSetGet': what is read, and that the call returns true. -/
import Derived.Test.YthgidapmofcloaaGreatDoorProg
import Derived.WalkKit
import Derived.LaidEql
import Derived.Stop.Asserts
import Derived.RowKitTokens
import Derived.Lib.IfaceEq
import Derived.Test.YthgidapmofcloaaGreatDoorTie
import Derived.Test.YthgidapmofcloaaGreatDoorCards
import Derived.ProofKit
import Derived.LaidMore
import Derived.LaidHandle
import Derived.Lib.LaidTab
import Derived.Stop.LaidErr
import Derived.OpenShut
import Derived.Stop.Joined
import Derived.Lay
import Derived.SevenTiedAt
import Derived.Lib.SmallJoins
import Derived.Lib.AppendIntMem
import Derived.Carry
import Derived.Deep.DeepHandedRow
import Derived.Deep.DeepWitnessRowRef
import Derived.Test.YthgidapmofcloaaGreatDoorSn
set_option linter.unusedSimpArgs false
set_option linter.unusedVariables false
namespace Go.Proofs.YthgidapmofcloaaGreatDoor
open Go.RowKit Go.Extern.Stop Go.Stop Go.Extern

set_option maxRecDepth 100000 in
theorem as_nil (t : Value) (w : World) : Calls Tryz.prog 74 #[.nilIface, t] w fun e w' => e = .returned (.bool false) ∧ w' = w := by
  go_enter Tryz.func74, Tryz.ntmps74
  go_wp2
  go_ret
  exact ⟨rfl, rfl⟩

namespace Pr
theorem valueOf107 (t : Addr) (w : World) : (ReflectliteValue.unpack (.iface 107 (.pointer (some t)))).run Tryz.prog w
    = .ok (.agg #[.pointer (some ⟨9, 107, none⟩), .pointer (some ⟨w.heap.size, 0, none⟩), .int .u64 150]) (w.alloc (.cells #[.pointer (some t)] 107)) := by kernel_rfl
theorem type107 (a : Addr) (w : World) : (ReflectliteValue.methodAny (ReflectliteValue.valueError "reflectlite.Value.Type" 0) (fun t _ _ _ => ReflectliteType.toType t) #[.agg #[.pointer (some ⟨9, 107, none⟩), .pointer (some a), .int .u64 150]]).run Tryz.prog w
    = .ok (.iface 187 (.agg #[.pointer (some ⟨9, 107, none⟩)])) w := by kernel_rfl
theorem methodKind (h : Value) (w : World) : (Go.method 391 187 (.agg #[h]) "Kind").run Tryz.prog w = .ok (263, h) w := by kernel_rfl
theorem kind107 (w : World) : ((ReflectliteType.abiMethod fun t => (fun a : Nat => Value.int IntKind.u8 (a : Int)) <$> Rtype.kind t) #[.pointer (some ⟨9, 107, none⟩)]).run Tryz.prog w = .ok (.int .u8 22) w := by kernel_rfl
theorem kind105 (w : World) : ((ReflectliteType.abiMethod fun t => (fun a : Nat => Value.int IntKind.u8 (a : Int)) <$> Rtype.kind t) #[.pointer (some ⟨9, 105, none⟩)]).run Tryz.prog w = .ok (.int .u8 22) w := by kernel_rfl
theorem rlm (z : Sem Value) (f : TypeId → Addr → Nat → Nat → Sem Value) (v : Value) :
    ReflectliteValue.method z f #[v] = (do match ← ReflectliteValue.parts v with | none => z | some (t, a, fl) => f t a fl (fl % 32)) := rfl
theorem parts107 (a : Addr) (w : World) : (ReflectliteValue.parts (.agg #[.pointer (some ⟨9, 107, none⟩), .pointer (some a), .int .u64 150])).run Tryz.prog w = .ok (some (107, a, 150)) w := by kernel_rfl
theorem isNil107 (a p : Addr) (W : World) (ha : W.cell? a = some (.pointer (some p))) :
    (ReflectliteValue.method (ReflectliteValue.valueError "reflectlite.Value.IsNil" 0) ReflectliteValue.isNil #[.agg #[.pointer (some ⟨9, 107, none⟩), .pointer (some a), .int .u64 150]]).run Tryz.prog W = .ok (.bool false) W := by
  rw [rlm]
  simp only [Sem.run_bind, parts107, Result.andThen]
  simp [ReflectliteValue.isNil, loadVar, isAgg, underlying, Tryz.underlying107, ha, Result.andThen]
theorem methodElem (h : Value) (w : World) : (Go.method 391 187 (.agg #[h]) "Elem").run Tryz.prog w = .ok (276, .agg #[h]) w := by kernel_rfl
theorem methodImplements (h : Value) (w : World) : (Go.method 391 187 (.agg #[h]) "Implements").run Tryz.prog w = .ok (277, .agg #[h]) w := by kernel_rfl
theorem methodAssignableTo (h : Value) (w : World) : (Go.method 391 187 (.agg #[h]) "AssignableTo").run Tryz.prog w = .ok (274, .agg #[h]) w := by kernel_rfl
theorem elem107 (w : World) : (ReflectliteType.method ReflectliteType.elem #[.agg #[.pointer (some ⟨9, 107, none⟩)]]).run Tryz.prog w = .ok (.iface 187 (.agg #[.pointer (some ⟨9, 105, none⟩)])) w := by kernel_rfl
theorem implements105 (w : World) : (ReflectliteType.relation "Implements" ReflectliteType.implements_ #[.agg #[.pointer (some ⟨9, 105, none⟩)], .iface 187 (.agg #[.pointer (some ⟨9, 32, none⟩)])]).run Tryz.prog w = .ok (.bool true) w := by kernel_rfl
theorem typeOf105 (v : Value) (w : World) : (ReflectliteType.typeOf #[.iface 105 v]).run Tryz.prog w = .ok (.iface 187 (.agg #[.pointer (some ⟨9, 105, none⟩)])) w := by kernel_rfl
theorem assignable105 (w : World) : (ReflectliteType.relation "AssignableTo" ReflectliteType.assignableTo #[.agg #[.pointer (some ⟨9, 105, none⟩)], .iface 187 (.agg #[.pointer (some ⟨9, 105, none⟩)])]).run Tryz.prog w = .ok (.bool true) w := by kernel_rfl
theorem valueOf105 (e : Addr) (w : World) : (ReflectliteValue.unpack (.iface 105 (.pointer (some e)))).run Tryz.prog w
    = .ok (.agg #[.pointer (some ⟨9, 105, none⟩), .pointer (some ⟨w.heap.size, 0, none⟩), .int .u64 150]) (w.alloc (.cells #[.pointer (some e)] 105)) := by kernel_rfl
theorem elemOf107 (w : World) : (Rtype.elem? 107).run Tryz.prog w = .ok (some 105) w := by kernel_rfl
theorem mk105 (p : Addr) (w : World) : (ReflectliteValue.mk 105 p ReflectliteValue.flagAddr).run Tryz.prog w = .ok (.agg #[.pointer (some ⟨9, 105, none⟩), .pointer (some p), .int .u64 406]) w := by kernel_rfl
theorem elemV107 (a p : Addr) (W : World) (ha : W.cell? a = some (.pointer (some p))) :
    (ReflectliteValue.method (ReflectliteValue.valueError "reflectlite.Value.Elem" 0) ReflectliteValue.elem #[.agg #[.pointer (some ⟨9, 107, none⟩), .pointer (some a), .int .u64 150]]).run Tryz.prog W
      = .ok (.agg #[.pointer (some ⟨9, 105, none⟩), .pointer (some p), .int .u64 406]) W := by
  rw [rlm]
  simp only [Sem.run_bind, parts107, Result.andThen]
  simp [ReflectliteValue.elem, loadVar, isAgg, underlying, Tryz.underlying107, ha, Result.andThen, elemOf107, mk105]
theorem rls (v x : Value) : ReflectliteValue.set #[v, x] = (do
    let (some (dst, a, fl), some (src, b, _)) := (← ReflectliteValue.parts v, ← ReflectliteValue.parts x)
      | unsupported (.noEntry "extern/(internal/reflectlite.Value).Set.zeroValue")
    if fl / ReflectliteValue.flagAddr % 2 == 0 then unsupported (.noEntry "extern/(internal/reflectlite.Value).Set.unaddressable")
    let val ← loadVar src b
    if ← Rtype.directlyAssignable dst src then storeVar dst a val
    else if ← Rtype.implements dst src then
      if (← Rtype.kind src) == 20 then
        match val with
        | .nilIface => unsupported (.noEntry "extern/reflectlite: a nil value of one interface type handed on as a value of another")
        | _ => storeVar dst a val
      else storeVar dst a (.iface src val)
    else panicString ("reflectlite.Set: value of type " ++ (← Rtype.spelt src) ++ " is not assignable to type " ++ (← Rtype.spelt dst))
    pure (.tuple #[])) := rfl
theorem parts105a (a : Addr) (w : World) : (ReflectliteValue.parts (.agg #[.pointer (some ⟨9, 105, none⟩), .pointer (some a), .int .u64 406])).run Tryz.prog w = .ok (some (105, a, 406)) w := by kernel_rfl
theorem parts105 (a : Addr) (w : World) : (ReflectliteValue.parts (.agg #[.pointer (some ⟨9, 105, none⟩), .pointer (some a), .int .u64 150])).run Tryz.prog w = .ok (some (105, a, 150)) w := by kernel_rfl
theorem direct105 (w : World) : (Rtype.directlyAssignable 105 105).run Tryz.prog w = .ok true w := by kernel_rfl
theorem set105 (ta b e : Addr) (old : Value) (W : World) (hb : W.cell? b = some (.pointer (some e))) (ht : W.cell? ta = some old) (hf : W.frozen? ta = false) :
    (ReflectliteValue.set #[.agg #[.pointer (some ⟨9, 105, none⟩), .pointer (some ta), .int .u64 406], .agg #[.pointer (some ⟨9, 105, none⟩), .pointer (some b), .int .u64 150]]).run Tryz.prog W
      = .ok (.tuple #[]) (W.setCell ta (.pointer (some e))) := by
  rw [rls]
  simp only [Sem.run_bind, parts105a, parts105, Result.andThen]
  simp [ReflectliteValue.flagAddr, loadVar, isAgg, underlying, Tryz.underlying105, hb, Result.andThen, direct105, storeVar, Value.cells, storeCells, Addr.add]
  rw [run_store Tryz.prog W ta _ _ (by rfl)]
  simp [ht, hf]
end Pr

set_option maxHeartbeats 4000000 in
set_option maxRecDepth 100000 in
theorem as_hit (e t : Addr) (old : Value) (w : World) (hg : w.cell? ⟨0, 0, none⟩ = some (.iface 187 (.agg #[.pointer (some ⟨9, 32, none⟩)]))) (ht0 : w.cell? t = some old) (hf0 : w.frozen? t = false) :
    Calls Tryz.prog 74 #[.iface 105 (.pointer (some e)), .iface 107 (.pointer (some t))] w fun ev w' => ev = .returned (.bool true) ∧ w' = ((((w.alloc (.cells #[.pointer (some t)] 107)).alloc (.cells #[.pointer (some ⟨9, 107, none⟩), .pointer (some ⟨w.heap.size, 0, none⟩), .int .u64 150] 149)).alloc (.cells #[.pointer (some ⟨9, 107, none⟩), .pointer (some ⟨w.heap.size, 0, none⟩), .int .u64 150] 149)).alloc (.cells #[.pointer (some e)] 105)).setCell t (.pointer (some e)) := by
  have h6 := @run_callFunc_extern Tryz.prog 122 _ (fun args => ReflectliteValue.unpack (args.getD 0 (.tuple #[]))) Tryz.func122 (by kernel_rfl) (by kernel_rfl) (by kernel_rfl) (by kernel_rfl)
  have h7 := @run_callFunc_extern Tryz.prog 123 _ (ReflectliteValue.methodAny (ReflectliteValue.valueError "reflectlite.Value.Type" 0) (fun t _ _ _ => ReflectliteType.toType t)) Tryz.func123 (by kernel_rfl) (by kernel_rfl) (by kernel_rfl) (by kernel_rfl)
  have h8 := @run_callFunc_extern Tryz.prog 124 _ (ReflectliteValue.method (ReflectliteValue.valueError "reflectlite.Value.IsNil" 0) ReflectliteValue.isNil) Tryz.func124 (by kernel_rfl) (by kernel_rfl) (by kernel_rfl) (by kernel_rfl)
  have h27 := @run_callFunc_extern Tryz.prog 263 _ (ReflectliteType.abiMethod fun t => do pure (.int .u8 (← Rtype.kind t))) Tryz.func263 (by kernel_rfl) (by kernel_rfl) (by kernel_rfl) (by kernel_rfl)
  have h37 := @run_callFunc_extern Tryz.prog 276 _ (ReflectliteType.method ReflectliteType.elem) Tryz.func276 (by kernel_rfl) (by kernel_rfl) (by kernel_rfl) (by kernel_rfl)
  have h38 := @run_callFunc_extern Tryz.prog 277 _ (ReflectliteType.relation "Implements" ReflectliteType.implements_) Tryz.func277 (by kernel_rfl) (by kernel_rfl) (by kernel_rfl) (by kernel_rfl)
  have h10 := @run_callFunc_extern Tryz.prog 126 _ ReflectliteType.typeOf Tryz.func126 (by kernel_rfl) (by kernel_rfl) (by kernel_rfl) (by kernel_rfl)
  have h35 := @run_callFunc_extern Tryz.prog 274 _ (ReflectliteType.relation "AssignableTo" ReflectliteType.assignableTo) Tryz.func274 (by kernel_rfl) (by kernel_rfl) (by kernel_rfl) (by kernel_rfl)
  have h11 := @run_callFunc_extern Tryz.prog 157 _ (ReflectliteValue.method (ReflectliteValue.valueError "reflectlite.Value.Elem" 0) ReflectliteValue.elem) Tryz.func157 (by kernel_rfl) (by kernel_rfl) (by kernel_rfl) (by kernel_rfl)
  have h12 := @run_callFunc_extern Tryz.prog 158 _ ReflectliteValue.set Tryz.func158 (by kernel_rfl) (by kernel_rfl) (by kernel_rfl) (by kernel_rfl)
  have tO := Pr.typeOf105
  have mA := Pr.methodAssignableTo
  have a25 := Pr.assignable105
  have v25 := Pr.valueOf105
  have f6 := Pr.valueOf107
  have f7 := Pr.type107
  have mK := Pr.methodKind
  have mE := Pr.methodElem
  have mI := Pr.methodImplements
  have k27 := Pr.kind107
  have k25 := Pr.kind105
  have e27 := Pr.elem107
  have i25 := Pr.implements105
  have n8 := Pr.isNil107 ⟨w.heap.size, 0, none⟩ t ((w.alloc (.cells #[.pointer (some t)] 107)).alloc (.cells #[.pointer (some ⟨9, 107, none⟩), .pointer (some ⟨w.heap.size, 0, none⟩), .int .u64 150] 149)) (by simp)
  have hlt : 0 < w.heap.size := by
    rcases Nat.eq_zero_or_pos w.heap.size with h0 | h
    · simp [World.cell?, h0] at hg
    · exact h
  have hg2 : ((w.alloc (.cells #[.pointer (some t)] 107)).alloc (.cells #[.pointer (some ⟨9, 107, none⟩), .pointer (some ⟨w.heap.size, 0, none⟩), .int .u64 150] 149)).cell? ⟨0, 0, none⟩ = some (.iface 187 (.agg #[.pointer (some ⟨9, 32, none⟩)])) := by
    rw [World.cell?_alloc_lt _ _ ⟨0, 0, none⟩ (by simp), World.cell?_alloc_lt _ _ ⟨0, 0, none⟩ hlt]; exact hg
  have htl : t.block < w.heap.size := by
    rcases Nat.lt_or_ge t.block w.heap.size with h | h
    · exact h
    · simp [World.cell?, Array.getElem?_eq_none h] at ht0
  have el := Pr.elemV107 ⟨w.heap.size, 0, none⟩ t (((w.alloc (.cells #[.pointer (some t)] 107)).alloc (.cells #[.pointer (some ⟨9, 107, none⟩), .pointer (some ⟨w.heap.size, 0, none⟩), .int .u64 150] 149)).alloc (.cells #[.pointer (some ⟨9, 107, none⟩), .pointer (some ⟨w.heap.size, 0, none⟩), .int .u64 150] 149)) (by rw [World.cell?_alloc_lt _ _ ⟨w.heap.size, 0, none⟩ (by simp; omega)]; simp)
  have st := Pr.set105 t ⟨w.heap.size + 1 + 1 + 1, 0, none⟩ e old ((((w.alloc (.cells #[.pointer (some t)] 107)).alloc (.cells #[.pointer (some ⟨9, 107, none⟩), .pointer (some ⟨w.heap.size, 0, none⟩), .int .u64 150] 149)).alloc (.cells #[.pointer (some ⟨9, 107, none⟩), .pointer (some ⟨w.heap.size, 0, none⟩), .int .u64 150] 149)).alloc (.cells #[.pointer (some e)] 105))
    (by rw [World.cell?_alloc_at _ _ _ _ (by simp)]; rfl)
    (by rw [World.cell?_alloc_lt _ _ t (by simp; omega), World.cell?_alloc_lt _ _ t (by simp; omega), World.cell?_alloc_lt _ _ t (by simp; omega), World.cell?_alloc_lt _ _ t htl]; exact ht0)
    (by rw [World.frozen?_alloc_old _ _ t (by simp; omega), World.frozen?_alloc_old _ _ t (by simp; omega), World.frozen?_alloc_old _ _ t (by simp; omega), World.frozen?_alloc_old _ _ t (Nat.ne_of_lt htl)]; exact hf0)
  go_enter Tryz.func74, Tryz.ntmps74
  go_wp2
  refine wp_loop_rounds 1 ?_
  rw [rounds_succ]
  go_wp2
  go_ret
  exact ⟨rfl, rfl⟩

namespace Pr
theorem typeOf26 (v : Value) (w : World) : (ReflectliteType.typeOf #[.iface 26 v]).run Tryz.prog w = .ok (.iface 187 (.agg #[.pointer (some ⟨9, 26, none⟩)])) w := by kernel_rfl
theorem comparable26 (w : World) : ((ReflectliteType.method fun t => do Rtype.noPackHeld "Comparable" t; (fun a => Value.bool a.comparable) <$> typeInfo t) #[.agg #[.pointer (some ⟨9, 26, none⟩)]]).run Tryz.prog w = .ok (.bool true) w := by kernel_rfl
theorem methodComparable (v : Value) (w : World) : (Go.method 391 187 v "Comparable").run Tryz.prog w = .ok (275, v) w := by kernel_rfl
theorem noIs (v : Value) (xT : TypeId) (w : World) : (Instr.typeAssert (.iface 105 v) xT 199 true).run Tryz.prog w = .ok (.tuple #[.nilIface, .bool false]) w := run_typeAssert_lacksB Tryz.underlying199 (by kernel_rfl) (by kernel_rfl) v xT w
theorem hasUnwrap (v : Value) (xT : TypeId) (w : World) : (Instr.typeAssert (.iface 105 v) xT 194 true).run Tryz.prog w = .ok (.tuple #[.iface 105 v, .bool true]) w := run_typeAssert_hasB Tryz.underlying194 (by kernel_rfl) v xT w
theorem methodUnwrap (v : Value) (w : World) : (Go.method 391 105 v "Unwrap").run Tryz.prog w = .ok (269, v) w := by kernel_rfl
end Pr
end Go.Proofs.YthgidapmofcloaaGreatDoor

namespace Go.Proofs.YthgidapmofcloaaGreatDoor
open Go.RowKit Go.Extern.Stop Go.Stop Go.Extern

theorem Pr.comp26 : (Tryz.prog.info? 26).map (·.comparable) = some true := by kernel_rfl

set_option maxHeartbeats 4000000 in
set_option maxRecDepth 100000 in
theorem is_hit (pb po : Nat) (m : Int) (w : World) (h1 : w.cell? ⟨pb, po + 1, none⟩ = some (.int .i64 m)) :
    Calls Tryz.prog 76 #[.iface 105 (.pointer (some ⟨pb, po, none⟩)), .iface 26 (.int .i64 m)] w fun e w' => e = .returned (.bool true) ∧ w' = w := by
  have h8 := @run_callFunc_extern Tryz.prog 126 _ Extern.ReflectliteType.typeOf Tryz.func126 (by kernel_rfl) (by kernel_rfl) (by kernel_rfl) (by kernel_rfl)
  have h32 := @run_callFunc_extern Tryz.prog 275 _ (Extern.ReflectliteType.method fun t => do Rtype.noPackHeld "Comparable" t; pure (.bool (← typeInfo t).comparable)) Tryz.func275 (by kernel_rfl) (by kernel_rfl) (by kernel_rfl) (by kernel_rfl)
  have tT := Pr.typeOf26
  have cT := Pr.comparable26
  have mR := Pr.methodComparable
  have nE := Pr.noIs
  have uW := Pr.hasUnwrap
  have mU := Pr.methodUnwrap
  have heq := Go.Lib.run_eql_iface_int (P := Tryz.prog) w (k := .i64) m m Tryz.underlying32 Pr.comp26 Tryz.underlying26
  have hty := run_eql_iface_types (P := Tryz.prog) 105 26 (.pointer (some ⟨pb, po, none⟩)) (.int .i64 m) Tryz.underlying32 (by decide) w
  rw [beq_self_eq_true] at heq
  go_enter Tryz.func76, Tryz.ntmps76
  go_wp2
  refine wp_loop_rounds 2 ?_
  rw [rounds_succ]
  go_wp2
  rw [rounds_succ]
  go_wp2
  go_ret
  exact ⟨rfl, rfl⟩

/-- the powers of ten -/
abbrev pows : List Int := [1, 10, 100, 1000, 10000, 100000, 1000000, 10000000, 100000000, 1000000000, 10000000000, 100000000000, 1000000000000, 10000000000000, 100000000000000, 1000000000000000, 10000000000000000, 100000000000000000, 1000000000000000000, 10000000000000000000]
abbrev powsA : List Dn.AV := [.int .u64 1, .int .u64 10, .int .u64 100, .int .u64 1000, .int .u64 10000, .int .u64 100000, .int .u64 1000000, .int .u64 10000000, .int .u64 100000000, .int .u64 1000000000, .int .u64 10000000000, .int .u64 100000000000, .int .u64 1000000000000, .int .u64 10000000000000, .int .u64 100000000000000, .int .u64 1000000000000000, .int .u64 10000000000000000, .int .u64 100000000000000000, .int .u64 1000000000000000000, .int .u64 10000000000000000000]
theorem powsA_eq : powsA = pows.map (Dn.AV.int .u64) := rfl

abbrev gtT : Dn.GT := [(6, powsA), (0, [.raw (.iface 187 (.agg #[.pointer (some ⟨9, 32, none⟩)]))])]

theorem gtT_cell {S : Dn.St} {G : Dn.Gh} {w : World} (hI : Dn.Inv Tryz.prog gtT S G w) : w.cell? ⟨0, 0, none⟩ = some (.iface 187 (.agg #[.pointer (some ⟨9, 32, none⟩)])) := by
  obtain ⟨_, c, ty, fr, h1, h2⟩ := hI.glob 0 _ rfl
  simp only [Dn.Rl, Dn.Rv] at h2
  obtain ⟨v, r, e1, ⟨rfl, _⟩, rfl⟩ := h2
  obtain ⟨c⟩ := c
  simp only at e1
  subst e1
  simp [World.cell?, h1]

theorem setCell_wBlk {w : World} {b off : Nat} {c : Array Value} {ty : TypeId} {fr : Nat × Nat} (v : Value) (h : w.heap[b]? = some (.cells c ty fr)) : w.setCell ⟨b, off, none⟩ v = Dn.wBlk w b (.cells (c.setIfInBounds off v) ty fr) := by
  have hlt := Dn.lt_of_some h
  simp only [World.setCell, Dn.wBlk]
  congr 1
  apply Array.ext_getElem?
  intro j
  by_cases e : j = b
  · subst e; rw [Array.getElem?_modify, if_pos rfl, h]; simp [hlt]
  · rw [Array.getElem?_setIfInBounds_ne (Ne.symm e), Array.getElem?_modify, if_neg (Ne.symm e)]

theorem body74 : Dn.HasBody Tryz.prog 74 := ⟨_, Tryz.func74, by kernel_rfl, by kernel_rfl⟩
theorem body76 : Dn.HasBody Tryz.prog 76 := ⟨_, Tryz.func76, by kernel_rfl, by kernel_rfl⟩

theorem primAs : Dn.PrimOK Tryz.prog gtT 74 (.errAs 105 107) := by
  intro xs S v S' h
  refine ⟨body74, fun G w args hI hx => ?_⟩
  unfold Dn.primV at h
  split at h <;> try (rename_i e1; cases e1; done)
  · rename_i e1
    cases e1
    simp only [Dn.Rl] at hx
    obtain ⟨u, r, rfl, hu, t, r, rfl, ht, rfl⟩ := hx
    simp only [Dn.Rv] at hu
    subst hu
    cases h
    exact (as_nil t w).mono fun e w' ⟨h1, h2⟩ => by
      subst h1; subst h2
      exact ⟨_, _, _, ⟨rfl, rfl⟩, Dn.Tr.refl hI, by simp only [Dn.Rv]⟩
  · rename_i t tp t' id off tp' tid e1
    cases e1
    cases hb : (Nat.beq 105 t' && Nat.beq 107 tp') with
    | false => rw [hb] at h; cases h
    | true =>
      rw [hb] at h
      simp only [cond_true] at h
      simp only [Bool.and_eq_true] at hb
      obtain rfl := Nat.eq_of_beq_eq_true hb.1
      obtain rfl := Nat.eq_of_beq_eq_true hb.2
      split at h
      · rename_i ty a hbx
        cases h
        simp only [Dn.Rl, Dn.Rv] at hx
        obtain ⟨u, r, rfl, hu, t, r, rfl, ht, rfl⟩ := hx
        obtain ⟨_, rfl, hid, rfl⟩ := hu
        obtain ⟨_, rfl, htid, rfl⟩ := ht
        obtain ⟨_, c, fr, sf, pre, rest, hw, hfr, hcl, hpre⟩ := hI.box tid ty _ hbx
        simp only [Dn.Rl] at hpre
        obtain ⟨u0, r, rfl, _, rfl⟩ := hpre
        have hsz : 0 < c.size := by rw [← Array.length_toList, hcl]; simp
        have hc0 : c[0]? = some u0 := by rw [← Array.getElem?_toList, hcl]; rfl
        refine (as_hit ⟨G.β id, off, none⟩ ⟨G.β tid, 0, none⟩ u0 w (gtT_cell hI) (by simp [World.cell?, hw, hc0]) (by simp only [World.frozen?, hw]; exact hfr.free hsz)).mono fun e w' ⟨h1, h2⟩ => ?_
        subst h1
        generalize hW : (((w.alloc (.cells #[.pointer (some ⟨G.β tid, 0, none⟩)] 107)).alloc (.cells #[.pointer (some ⟨9, 107, none⟩), .pointer (some ⟨w.heap.size, 0, none⟩), .int .u64 150] 149)).alloc (.cells #[.pointer (some ⟨9, 107, none⟩), .pointer (some ⟨w.heap.size, 0, none⟩), .int .u64 150] 149)).alloc (.cells #[.pointer (some ⟨G.β id, off, none⟩)] 105) = W at h2
        have hgr : Dn.Gr w W := by
          subst hW
          exact (((Dn.Gr.push _ _).trans (Dn.Gr.push _ _)).trans (Dn.Gr.push _ _)).trans (Dn.Gr.push _ _)
        clear hW
        have t1 := Dn.Tr.gr hI hgr
        have hw2 : W.heap[G.β tid]? = some (.cells c ty fr) := by rw [hgr.same _ (hI.boxLt tid htid)]; exact hw
        rw [setCell_wBlk _ hw2] at h2
        have t2 := Dn.Tr.boxSet t1.inv (c' := c.setIfInBounds 0 (.pointer (some ⟨G.β id, off, none⟩))) (cs' := [.ptr id off]) (pre' := [.pointer (some ⟨G.β id, off, none⟩)]) (rest := rest) hbx hw2 (by simp) (by simp [hcl]) (by
          refine ⟨_, _, rfl, ?_, rfl⟩
          simp only [Dn.Rv]
          exact ⟨hid, trivial⟩)
        subst h2
        exact ⟨_, _, _, ⟨rfl, rfl⟩, t1.trans t2, by simp only [Dn.Rv]⟩
      · cases h
  · cases h

theorem primIs : Dn.PrimOK Tryz.prog gtT 76 (.errIs 105 26) := by
  intro xs S v S' h
  refine ⟨body76, fun G w args hI hx => ?_⟩
  unfold Dn.primV at h
  split at h <;> try (rename_i e1; cases e1; done)
  · rename_i t ti t' id off ti' n e1
    cases e1
    cases hb : (Nat.beq 105 t' && Nat.beq 26 ti') with
    | false => rw [hb] at h; cases h
    | true =>
      rw [hb] at h
      simp only [cond_true] at h
      simp only [Bool.and_eq_true] at hb
      obtain rfl := Nat.eq_of_beq_eq_true hb.1
      obtain rfl := Nat.eq_of_beq_eq_true hb.2
      split at h
      · rename_i ty cs hbx
        split at h
        · rename_i m hm
          cases hmn : m == n with
          | false => rw [hmn] at h; cases h
          | true =>
            rw [hmn] at h
            cases h
            obtain rfl := eq_of_beq hmn
            simp only [Dn.Rl, Dn.Rv] at hx
            obtain ⟨u, r, rfl, hu, t, r, rfl, ht, rfl⟩ := hx
            obtain ⟨_, rfl, hid, rfl⟩ := hu
            obtain ⟨_, rfl, rfl⟩ := ht
            obtain ⟨_, c, fr, sf, pre, rest, hw, hfr, hcl, hpre⟩ := hI.box id ty cs hbx
            have hc1 : c[off + 1]? = some (.int .i64 m) := by
              rw [← Array.getElem?_toList, hcl]
              obtain ⟨y, hy1, hy2⟩ := Dn.Rl.get hpre hm
              simp only [Dn.Rv] at hy2
              subst hy2
              have q : off + 1 < pre.length := by
                rcases Nat.lt_or_ge (off + 1) pre.length with q | q
                · exact q
                · rw [List.getElem?_eq_none q] at hy1; cases hy1
              rw [List.getElem?_append_left q]
              exact hy1
            refine (is_hit (G.β id) off m w (by simp [World.cell?, hw, hc1])).mono fun e w' ⟨h1, h2⟩ => ?_
            subst h1; subst h2
            exact ⟨_, _, _, ⟨rfl, rfl⟩, Dn.Tr.refl hI, by simp only [Dn.Rv]⟩
        · cases h
      · cases h
  · cases h

theorem prims : Dn.PrimsOK Tryz.prog gtT [(74, .errAs 105 107), (76, .errIs 105 26)] := .cons primAs (.cons primIs .nil)
end Go.Proofs.YthgidapmofcloaaGreatDoor

namespace Go.Proofs.YthgidapmofcloaaGreatDoor
open Go.ChangeShapes Go.WideShapes Go.ChangeAt Go.RowKit

abbrev laid : List (String × DataW Unit) := Rows.treeRunsRow.laid

theorem own : ownKnob Tryz.prog.godebug = none := by kernel_rfl
theorem globET : Tryz.prog.globalNamed "errors.errorType" = some 0 := by kernel_rfl
theorem rtypeIs : (Tryz.prog.cutTypes.find? (·.1 == "internal/reflectlite.rtype")).map (·.2) = some 187 := by kernel_rfl
theorem oneRow : ((List.range 291).filter fun t => Tryz.prog.rowNamed t [101, 114, 114, 111, 114]) = [32] := by kernel_rfl
theorem typesSize : Tryz.prog.types.size = 291 := by kernel_rfl

/-- WHAT THE CONDITION GIVES A WALK. -/
theorem handle_of_laid {W : World} (h : laidMetH Tryz.prog laid W) : W.var? Tryz.prog "errors.errorType" = some #[.iface 187 (.agg #[.pointer (some ⟨9, 32, none⟩)])] := by
  have h' : laidMet Tryz.prog (laid.filter fun x => x.2.handleName?.isNone) W ∧ handlesMet Tryz.prog [("errors.errorType", Rows.laid_errors_errorType)] W := h
  obtain ⟨name, u, ty, e1, e2, e3, e4, e5⟩ := h'.2 _ (List.mem_singleton.2 rfl)
  have en : name = [101, 114, 114, 111, 114] := (Option.some.inj e1).symm
  subst en
  obtain rfl := Option.some.inj (rtypeIs.symm.trans e2)
  have hm : ty ∈ (List.range 291).filter fun t => Tryz.prog.rowNamed t [101, 114, 114, 111, 114] := List.mem_filter.2 ⟨List.mem_range.2 (by rw [← typesSize]; exact e3), e4⟩
  rw [oneRow] at hm
  obtain rfl := List.mem_singleton.1 hm
  have hh : typeHandle Tryz.prog 32 = .pointer (some ⟨9, 32, none⟩) := by kernel_rfl
  rw [hh] at e5
  exact e5

theorem globPow : Tryz.prog.globalNamed "internal/strconv.uint64pow10" = some 6 := by kernel_rfl
theorem typePow : (Tryz.prog.globals[6]?).map (·.type) = some 256 := by kernel_rfl
theorem undPow : Tryz.prog.underlying 256 = some (.array 20 212) := by kernel_rfl
theorem undU64 : Tryz.prog.underlying 212 = some (.int .u64) := by kernel_rfl

theorem pow_of_laid {W : World} (h : laidMetH Tryz.prog laid W) : Lib.TabIs Tryz.prog W "internal/strconv.uint64pow10" .u64 pows := by
  have h' : laidMet Tryz.prog (laid.filter fun x => x.2.handleName?.isNone) W ∧ handlesMet Tryz.prog [("errors.errorType", Rows.laid_errors_errorType)] W := h
  exact Lib.tabIs_of_head globPow typePow undPow undU64 (by kernel_rfl) (by kernel_rfl) (laidMet.tail (laidMet.tail h'.1))

theorem inv_of_laid {W : World} (h : laidMetH Tryz.prog laid W) : Dn.Inv Tryz.prog gtT Dn.St.init (Dn.G0 W) W := by
  refine Dn.inv0g fun g cs hg => ?_
  rw [Dn.lk_cons] at hg
  by_cases e : 6 = g
  · rw [if_pos e] at hg
    subst e
    cases hg
    have hv := pow_of_laid h
    simp only [Lib.TabIs, World.var?, globPow, Option.bind_some] at hv
    split at hv
    · rename_i c ty fr hw
      cases hv
      refine ⟨_, ty, fr, hw, ?_⟩
      rw [powsA_eq]
      generalize pows = l
      induction l with
      | nil => exact Dn.Rl.nil
      | cons a r ih => exact Dn.Rl.cons (by simp only [Dn.Rv]) ih
    · cases hv
  · rw [if_neg e, Dn.lk_cons] at hg
    by_cases e0 : 0 = g
    · rw [if_pos e0] at hg
      subst e0
      cases hg
      have hv := handle_of_laid h
      simp only [World.var?, globET, Option.bind_some] at hv
      split at hv
      · rename_i c ty fr hw
        cases hv
        refine ⟨_, ty, fr, hw, Dn.Rl.single ?_⟩
        simp only [Dn.Rv]
        exact ⟨trivial, rfl⟩
      · cases hv
    · rw [if_neg e0] at hg
      cases hg

/-- the settled world, the variable's cell laid -/
noncomputable def handW (os : Os) : World :=
  { World.holding Tryz.prog os ⟨#[], #[], []⟩ with heap := (World.holding Tryz.prog os ⟨#[], #[], []⟩).heap.modify 0 fun
      | .cells _ t frozen => .cells #[.iface 187 (.agg #[.pointer (some ⟨9, 32, none⟩)])] t frozen
      | o => o }

abbrev plain : List (String × DataW Unit) := laid.filter fun x => x.2.handleName?.isNone

/-- A world that meets the condition. -/
noncomputable def laidW (os : Os) : World := (handW os).layVars Tryz.prog plain

theorem laidW_os (os : Os) : (laidW os).os = os := World.layVars_os _ _ _

theorem laidW_fits (os : Os) : (handW os).layFits Tryz.prog plain [] = true := by kernel_rfl
theorem laidW_ifaces (os : Os) : (handW os).layIfaces Tryz.prog plain (laidW os) = true := by kernel_rfl
theorem laidW_hand (os : Os) : (laid.filter fun x => x.2.handleName?.isSome).all (handleAtB Tryz.prog (laidW os)) = true := by kernel_rfl

theorem laidW_met (os : Os) (args : Array Value) : laidMetH Tryz.prog laid ((laidW os).forCall (fun _ _ => 0) ⟨#[], args, []⟩).memory := by
  have e1 : (plain.filter fun x => (plain.map (·.1)).contains x.1) = plain := List.filter_eq_self.2 fun x hx => List.contains_iff_mem.2 (List.mem_map.2 ⟨x, hx, rfl⟩)
  have e2 : (plain.filter fun x => !(plain.map (·.1)).contains x.1) = [] := List.filter_eq_nil_iff.2 fun x hx => by rw [List.contains_iff_mem.2 (List.mem_map.2 ⟨x, hx, rfl⟩)]; simp
  have h : laidMet Tryz.prog plain (laidW os) := laidMet_layVars (w0 := handW os) (plain.map (·.1)) [] (by rw [e1]; rfl) (by rw [e1]; exact laidW_fits os) (by rw [e1]; exact laidW_ifaces os) (by rw [e2]; exact LaidIn.none)
  have h2 : laidMetH Tryz.prog laid (laidW os) := laidMetH_of_parts h (laidW_hand os)
  exact h2.of_heap (by simp [World.memory, World.forCall, Input.heap])

set_option maxRecDepth 1000000 in
theorem ran : Dn.exec2 gtT (fun f => Dn.lk [(74, Dn.PrimK.errAs 105 107), (76, Dn.PrimK.errIs 105 26)] f) (fun f => Dn.lk C1.tab f) 100000 200 3 [] Dn.St.init Dn.retTrue = true := by kernel_rfl

theorem runs {w : World} (h : laidMetH Tryz.prog laid w) : Calls Tryz.prog 3 #[] w fun e w' => e = .returned (.bool true) ∧ Below w.heap.size w w' :=
  Dn.runs_of_exec2 Tryz.checked.mixed C1.tabOK prims ran w (inv_of_laid h)
end Go.Proofs.YthgidapmofcloaaGreatDoor

namespace Go.Proofs.YthgidapmofcloaaGreatDoor
open Go.Dn Go.RowKit

theorem rv_str {S : St} {G : Gh} {w : World} {s : List UInt8} : Rv S G w (.str s) (.string ⟨s.toArray⟩) := by simp only [Rv]

theorem hbTL : HasBody Tryz.prog 162 := ⟨_, Tryz.func162, by kernel_rfl, by kernel_rfl⟩
theorem hbTR : HasBody Tryz.prog 163 := ⟨_, Tryz.func163, by kernel_rfl, by kernel_rfl⟩
theorem hbTT : HasBody Tryz.prog 169 := ⟨_, Tryz.func169, by kernel_rfl, by kernel_rfl⟩
theorem hbAI : HasBody Tryz.prog 187 := ⟨_, Tryz.func187, by kernel_rfl, by kernel_rfl⟩
theorem hbIA : HasBody Tryz.prog 165 := ⟨_, Tryz.func165, by kernel_rfl, by kernel_rfl⟩

theorem sh_trimL {cs : List UInt8} (hc : cs.length < 4294967281) (ha : ∀ b ∈ cs, b.toNat < 128) (s : List UInt8) : PF (AC Tryz.prog gtT) 162 [.str s, .str cs] (.str (trimL cs s)) :=
  PF.of_calls hbTL (fun S G w vs h => rl_str2 h) (fun S G w => rv_str) fun w =>
    Any.strings_TrimLeft_laid Tryz.lays161 (by kernel_rfl) ⟨s.toArray⟩ ⟨cs.toArray⟩ w hc fun j b h => ha b (List.mem_of_getElem? h)
theorem sh_trimR {cs : List UInt8} (hc : cs.length < 4294967281) (ha : ∀ b ∈ cs, b.toNat < 128) (s : List UInt8) (hs : s.length < 9223372036854775807) : PF (AC Tryz.prog gtT) 163 [.str s, .str cs] (.str (trimR cs s)) :=
  PF.of_calls hbTR (fun S G w vs h => rl_str2 h) (fun S G w => rv_str) fun w =>
    Any.strings_TrimRight_laid Tryz.lays162 (by kernel_rfl) ⟨s.toArray⟩ ⟨cs.toArray⟩ w (Nat.le_of_lt hs) hc fun j b h => ha b (List.mem_of_getElem? h)
theorem sh_trim {cs : List UInt8} (hc : cs.length < 4294967281) (ha : ∀ b ∈ cs, b.toNat < 128) (s : List UInt8) (hs : s.length < 9223372036854775807) : PF (AC Tryz.prog gtT) 169 [.str s, .str cs] (.str (trimA cs s)) :=
  PF.of_calls hbTT (fun S G w vs h => rl_str2 h) (fun S G w => rv_str) fun w =>
    Any.strings_Trim_laid Tryz.lays160 (by kernel_rfl) ⟨s.toArray⟩ ⟨cs.toArray⟩ w (Nat.le_of_lt hs) hc fun j b h => ha b (List.mem_of_getElem? h)

theorem decFrom_val (l : List UInt8) : ∀ (a : Nat), l.all dig = true → Lib.decFrom a l = some (valB a l) := by
  induction l with
  | nil => intro a _; rfl
  | cons b r ih =>
    intro a h
    rw [List.all_cons, Bool.and_eq_true] at h
    have hb := h.1
    simp only [dig, Bool.and_eq_true, decide_eq_true_eq] at hb
    have hd : Lib.digitVal b = some (b.toNat - 48) := if_pos hb
    unfold Lib.decFrom
    rw [hd]
    exact ih _ h.2
theorem atoi_val (l : List UInt8) (h : l.all dig = true) (h1 : 1 ≤ l.length) : Lib.atoi l = some (valB 0 l : Int) := by
  cases l with
  | nil => simp at h1
  | cons b r =>
    have hb := h
    simp only [List.all_cons, Bool.and_eq_true, dig, decide_eq_true_eq] at hb
    have n1 : (b == 45) = false := by
      cases hh : (b == 45) with
      | false => rfl
      | true => rw [beq_iff_eq] at hh; subst hh; exact absurd hb.1.1 (by decide)
    have n2 : (b == 43) = false := by
      cases hh : (b == 43) with
      | false => rfl
      | true => rw [beq_iff_eq] at hh; subst hh; exact absurd hb.1.1 (by decide)
    simp only [Lib.atoi, n1, n2, Bool.false_eq_true, if_false, Lib.decNat, List.isEmpty_cons]
    rw [decFrom_val _ 0 h]; rfl
theorem sh_atoi (s : List UInt8) (h : s.all dig = true) (h1 : 1 ≤ s.length) (h2 : s.length ≤ 18) : PF (AC Tryz.prog gtT) 187 [.str s] (.tup [.int .i64 (valB 0 s), .nilif]) :=
  PF.of_calls hbAI (fun S G w vs h => rl_str1 h) (v := .tuple #[.int .i64 (valB 0 s), .nilIface]) (fun S G w => by
      simp only [Rv]
      exact ⟨_, rfl, Rl.cons (by simp only [Rv]) (Rl.cons (by simp only [Rv]) Rl.nil)⟩) fun w =>
    (Any.strconv_Atoi Tryz.lays172 ⟨s.toArray⟩ (valB 0 s) h2 (atoi_val s h h1) w).mono fun e w' ⟨h1, t, h2⟩ => ⟨h1, by rw [h2]; exact Joins.below_bytesWorld _ _ _ _ (Nat.le_refl _)⟩

theorem decB_dec : ∀ n : Nat, Lib.decDigits n = decB n := fun n => by
  induction n using Nat.strongRecOn with
  | _ n ih =>
    unfold Lib.decDigits decB
    split
    · rfl
    · rw [ih (n / 10) (by omega)]
theorem itoa_eq (n : Int) : Lib.itoa n = itoaB n := by unfold Lib.itoa itoaB; rw [decB_dec, decB_dec]

theorem pows_tab : Lib.pow10Tab = pows := by decide
theorem tab_of_inv {S : St} {G : Gh} {w : World} (hI : Inv Tryz.prog gtT S G w) : Lib.TabIs Tryz.prog w "internal/strconv.uint64pow10" .u64 Lib.pow10Tab := by
  rw [pows_tab]
  obtain ⟨_, c, ty, fr, h1, h2⟩ := hI.glob 6 powsA rfl
  have : c = (pows.map fun z => Value.int .u64 z).toArray := by
    rw [powsA_eq] at h2
    obtain ⟨c⟩ := c
    simp only at h2
    congr 1
    clear h1
    revert h2
    generalize pows = l
    induction l generalizing c with
    | nil => intro h2; simpa only [List.map_nil, Rl] using h2
    | cons a r ih =>
      intro h2
      simp only [List.map_cons, Rl, Rv] at h2
      obtain ⟨v, q, rfl, rfl, h3⟩ := h2
      rw [List.map_cons, ih q h3]
  rw [this] at h1
  simp only [Lib.TabIs, World.var?, globPow, Option.bind_some, h1]

theorem rl_int1 {S : St} {G : Gh} {w : World} {k : IntKind} {n : Int} {vs : List Value} (h : Rl S G w [.int k n] vs) : vs = [.int k n] := by
  simp only [Rl, Rv] at h
  obtain ⟨v, r, rfl, rfl, rfl⟩ := h
  rfl
theorem sh_itoa (n : Int) (h1 : -999999 ≤ n) (h2 : n ≤ 999999) : PF (AC Tryz.prog gtT) 165 [.int .i64 n] (.str (itoaB n)) :=
  PF.of_callsI hbIA (fun S G w vs h => rl_int1 h) (v := .string ⟨(Lib.itoa n).toArray⟩) (fun S G w => by rw [itoa_eq]; exact rv_str) fun S G w hI =>
    (Any.strconv_Itoa Tryz.lays171M n (by omega) (by omega) w (tab_of_inv hI)).mono fun e w' ⟨h1, k, os, h2⟩ => ⟨h1, by rw [h2]; exact Lib.below_grow _ _ (Nat.le_refl _) _ _⟩
end Go.Proofs.YthgidapmofcloaaGreatDoor

namespace Go.Proofs.YthgidapmofcloaaGreatDoor.Fn
open Go.ChangeShapes Go.WideShapes Go.ChangeAt Go.RowKit Go.Dn

/-! ### the functions, each by its code -/
abbrev A : CallT := AC Tryz.prog gtT
theorem hm : MonoC A := AC_mono
theorem gtSta : GtSta gtT := fun g cs h => by
  rw [lk_cons] at h
  by_cases e : 6 = g
  · rw [if_pos e] at h
    cases h
    rw [powsA_eq]
    generalize pows = l
    induction l with
    | nil => exact trivial
    | cons a r ih => exact ⟨trivial, ih⟩
  · rw [if_neg e, lk_cons] at h
    by_cases e0 : 0 = g
    · rw [if_pos e0] at h
      cases h
      exact ⟨trivial, trivial⟩
    · rw [if_neg e0] at h
      cases h

theorem pf {f : FuncId} {fn : Func} {n : Note} {F : DF} {us : List AV} {u : AV} (hf : Tryz.prog.funcs[f]? = some fn) (hn : (fn.name == "runtime.NumGoroutine") = false) (hp : prepF Tryz.prog n fn = some F) (hs : Stas us) (hw : wpF gtT A F us St.init (Ret u)) : PF A f us u :=
  PF.of_init gtSta hs (AC_intro Tryz.checked.mixed hf hn hp hw)

theorem s1 {a : AV} (h : Sta a) : Stas [a] := ⟨h, trivial⟩
theorem s2 {a b : AV} (h : Sta a) (k : Sta b) : Stas [a, b] := ⟨h, k, trivial⟩
theorem s3 {a b c : AV} (h : Sta a) (k : Sta b) (l : Sta c) : Stas [a, b, c] := ⟨h, k, l, trivial⟩
theorem sS (l : List PS) : Sta (.sl 2 stat (encSs l)) := sta_sl (sta_Ss l)
theorem sK (l : List (List UInt8)) : Sta (.sl 1 stat (strs l)) := sta_sl (sta_strs l)
theorem sP (s : PS) : Sta (encS s) := ⟨trivial, trivial, trivial⟩

theorem indT {Q : PT → Prop} (h : ∀ t, (∀ u, u.n < t.n → Q u) → Q t) (t : PT) : Q t := (measure PT.n).wf.induction t h

theorem laidOut : laidOutB Tryz.prog = true := by kernel_rfl

theorem size3 : ∀ (t : PT) (m : Int), m < 4611686018427387904 → PF A 28 [encT t, .int .i64 m] (.int .i64 (Dn.size3 t m)) :=
  indT fun t ih m h => pf Tryz.func28 (by kernel_rfl) C1.F28_ok (s2 (sta_T t) trivial) (size3_wp hm (fun u hu m h => ih u hu m h) h)
theorem small (t : PT) : PF A 26 [encT t] (.bool (smallB t)) :=
  pf Tryz.func26 (by kernel_rfl) C1.F26_ok (s1 (sta_T t)) (small_wp hm size3)
theorem copyT : ∀ t : PT, t.ok → PF A 31 [encT t] (encT t) :=
  indT fun t ih h => pf Tryz.func31 (by kernel_rfl) C1.F31_ok (s1 (sta_T t)) (copy_wp hm ih h)
theorem plain : ∀ t u : PT, t.ok → PF A 32 [encT t, encT u] (.bool (eqT t u)) :=
  indT fun t ih u h => pf Tryz.func32 (by kernel_rfl) C1.F32_ok (s2 (sta_T t) (sta_T u)) (plain_wp hm ih h)
theorem index (keys : List (List UInt8)) (key : List UInt8) (h : keys.length < 4611686018427387904) : PF A 99 [.sl 1 stat (strs keys), .str key] (.int .i64 (plc key keys 0)) :=
  pf Tryz.func99 (by kernel_rfl) C1.F99_ok (s2 (sK keys) trivial) (index_wp hm h)
theorem part (t : PT) (s : PS) (h : t.ok) : PF A 56 [encT t, encS s] (.int .i64 (atT t s)) :=
  pf Tryz.func56 (by kernel_rfl) C1.F56_ok (s2 (sta_T t) (sP s)) (part_wp hm index h)
theorem get (t : PT) (path : List PS) (h : t.ok) (hp : path.length ≤ 4611686018427387904) : PF A 21 [encT t, .sl 2 stat (encSs path)] (encGet (getT t path)) :=
  pf Tryz.func21 (by kernel_rfl) C1.F21_ok (s2 (sta_T t) (sS path)) (get_wp hm part copyT h hp)
theorem set0 {w : PT} (hw : w.ok) : ∀ (n : Nat) (t : PT) (path : List PS), path.length = n → t.ok → PF A 57 [encT t, encT w, .sl 2 stat (encSs path)] (encGet (setT w t path)) := by
  intro n
  induction n using Nat.strongRecOn with
  | _ n ih =>
    intro t path hn h
    exact pf Tryz.func57 (by kernel_rfl) C1.F57_ok (s3 (sta_T t) (sta_T w) (sS path)) (set_wp hm part copyT (fun u p hu hl => PF.off (pr := [encT u, encT w]) (ih p.length (by omega) u p rfl hu) 1) h hw)
theorem set (t w : PT) (path : List PS) (h : t.ok) (hw : w.ok) (_ : path.length ≤ 4611686018427387904) : PF A 23 [encT t, encT w, .sl 2 stat (encSs path)] (encSet (setT w t path)) :=
  pf Tryz.func23 (by kernel_rfl) C1.F23_ok (s3 (sta_T t) (sta_T w) (sS path)) (setP_wp hm (set0 hw _ t path rfl h))
/-! ### numbers, times, texts -/
theorem hpre0 (s : List UInt8) (c : UInt8) : PF A 204 [.str s, .str [c]] (.bool (hd c s)) :=
  pf Tryz.func204 (by kernel_rfl) C1.F204_ok (s2 trivial trivial) hasPre0_wp
theorem hpre (s : List UInt8) (c : UInt8) : PF A 185 [.str s, .str [c]] (.bool (hd c s)) :=
  pf Tryz.func185 (by kernel_rfl) C1.F185_ok (s2 trivial trivial) (hasPre_wp hm hpre0)
theorem tpre0 (s : List UInt8) (c : UInt8) : PF A 205 [.str s, .str [c]] (.str (if hd c s then s.drop 1 else s)) :=
  pf Tryz.func205 (by kernel_rfl) C1.F205_ok (s2 trivial trivial) (trimPre0_wp hm hpre0)
theorem tpre (s : List UInt8) (c : UInt8) : PF A 186 [.str s, .str [c]] (.str (if hd c s then s.drop 1 else s)) :=
  pf Tryz.func186 (by kernel_rfl) C1.F186_ok (s2 trivial trivial) (trimPre_wp hm tpre0)
theorem digit (b : UInt8) : PF A 195 [.int .u8 b.toNat] (.bool (dig b)) :=
  pf Tryz.func195 (by kernel_rfl) C1.F195_ok (s1 trivial) digit_wp
theorem run (s : List UInt8) (h : s.length < 9223372036854775807) : PF A 164 [.str s] (.int .i64 (runB s)) :=
  pf Tryz.func164 (by kernel_rfl) C1.F164_ok (s1 trivial) (run_wp hm digit h)
theorem cut (s : List UInt8) (h : s.length < 9223372036854775807) : PF A 160 [.str s] (encCut (cutB s)) :=
  pf Tryz.func160 (by kernel_rfl) C1.F160_ok (s1 trivial) (cut_wp hm hpre tpre run h)
theorem ascii {cs : List UInt8} (h : cs.all (fun b => decide (b.toNat < 128)) = true) : ∀ b ∈ cs, b.toNat < 128 := fun b hb => of_decide_eq_true (List.all_eq_true.1 h b hb)
theorem tl48 (s : List UInt8) : PF A 162 [.str s, .str [48]] (.str (trimL [48] s)) := sh_trimL (by decide) (ascii (by decide)) s
theorem tr48 (s : List UInt8) (h : s.length < 9223372036854775807) : PF A 163 [.str s, .str [48]] (.str (trimR [48] s)) := sh_trimR (by decide) (ascii (by decide)) s h
theorem exponent (e : List UInt8) (h : (expT e).all dig = true) : PF A 161 [.str e] (encExp (expB e)) :=
  pf Tryz.func161 (by kernel_rfl) C1.F161_ok (s1 trivial) (exponent_wp hm hpre (fun s => sh_trimL (by decide) (ascii (by decide)) s) tl48 sh_atoi h)
theorem split (s : List UInt8) (h : s.length < 9223372036854775807) : PF A 132 [.str s] (encSplit (splitB s)) :=
  pf Tryz.func132 (by kernel_rfl) C1.F132_ok (s1 trivial) (split_wp hm cut exponent tl48 tr48 h)
theorem join (p : Parts3) (h : p.2.1.length ≤ 1000) : PF A 133 [encP p] (encJoin (joinB p)) :=
  pf Tryz.func133 (by kernel_rfl) C1.F133_ok (s1 ⟨trivial, trivial, trivial, trivial⟩) (join_wp hm run sh_itoa h)
theorem normal (s : List UInt8) (h : s.length < 4294967281) : PF A 81 [.str s] (encJoin (normB s)) :=
  pf Tryz.func81 (by kernel_rfl) C1.F81_ok (s1 trivial) (normal_wp hm split join (by omega))
theorem two (s : List UInt8) : PF A 166 [.str s] (.int .i64 (twoB s)) :=
  pf Tryz.func166 (by kernel_rfl) C1.F166_ok (s1 trivial) two_wp
theorem within (s : List UInt8) (lo hi : Int) : PF A 167 [.str s, .int .i64 lo, .int .i64 hi] (.bool (withinB s lo hi)) :=
  pf Tryz.func167 (by kernel_rfl) C1.F167_ok (s3 trivial trivial trivial) (within_wp hm two)
theorem days (y m : Int) : PF A 168 [.int .i64 y, .int .i64 m] (.int .i64 (daysB y m)) :=
  pf Tryz.func168 (by kernel_rfl) C1.F168_ok (s2 trivial trivial) days_wp
theorem date (s : List UInt8) : PF A 134 [.str s] (.bool (dateB s)) :=
  pf Tryz.func134 (by kernel_rfl) C1.F134_ok (s1 trivial) (date_wp hm two within days)
theorem clock (s : List UInt8) (h : s.length < 9223372036854775807) : PF A 135 [.str s] (.bool (clockB s)) :=
  pf Tryz.func135 (by kernel_rfl) C1.F135_ok (s1 trivial) (clock_wp hm within (fun s h => sh_trim (by decide) (ascii (by decide)) s h) h)
theorem hsuf0 (s : List UInt8) (c : UInt8) (h : s.length < 9223372036854775807) : PF A 197 [.str s, .str [c]] (.bool (tl c s)) :=
  pf Tryz.func197 (by kernel_rfl) C1.F197_ok (s2 trivial trivial) (hasSuf0_wp h)
theorem hsuf (s : List UInt8) (c : UInt8) (h : s.length < 9223372036854775807) : PF A 170 [.str s, .str [c]] (.bool (tl c s)) :=
  pf Tryz.func170 (by kernel_rfl) C1.F170_ok (s2 trivial trivial) (hasSuf_wp hm hsuf0 h)
theorem zone (s : List UInt8) (h : s.length < 9223372036854775807) : PF A 136 [.str s] (encZ (zoneB s)) :=
  pf Tryz.func136 (by kernel_rfl) C1.F136_ok (s1 trivial) (zone_wp hm hsuf within h)
theorem idxByte (s : List UInt8) (c : UInt8) : PF A 213 [.str s, .int .u8 c.toNat] (.int .i64 (idxB c s 0)) :=
  pf Tryz.func213 (by kernel_rfl) C1.F213_ok (s2 trivial trivial) idxByte_wp
theorem idx1 (s : List UInt8) : PF A 198 [.str s, .str [84]] (.int .i64 (idxB 84 s 0)) :=
  pf Tryz.func198 (by kernel_rfl) C1.F198_ok (s2 trivial trivial) (idx1_wp hm idxByte)
theorem cutL (s : List UInt8) (h : s.length < 4294967281) : PF A 171 [.str s, .str [84]] (.tup [.str (cutC 84 s).1, .str (cutC 84 s).2.1, .bool (cutC 84 s).2.2]) :=
  pf Tryz.func171 (by kernel_rfl) C1.F171_ok (s2 trivial trivial) (cutL_wp hm idx1 (by omega))
theorem cutS (s : List UInt8) (h : s.length < 4294967281) : PF A 137 [.str s, .str [84]] (.tup [.str (cutC 84 s).1, .str (cutC 84 s).2.1, .bool (cutC 84 s).2.2]) :=
  pf Tryz.func137 (by kernel_rfl) C1.F137_ok (s2 trivial trivial) (cutS_wp hm (cutL s h))
theorem time (s : List UInt8) (h : s.length < 4294967281) : PF A 83 [.str s] (.bool (timeB s)) :=
  pf Tryz.func83 (by kernel_rfl) C1.F83_ok (s1 trivial) (time_wp hm date clock zone cutS h)
theorem rowU (b : UInt8) : PF A 172 [.int .u8 b.toNat] (encLead (leadB b.toNat)) :=
  pf Tryz.func172 (by kernel_rfl) C1.F172_ok (s1 trivial) (row_wp hm b)
theorem charU (c : Int) : PF A 173 [.int .i64 c] (.bool (charB c)) :=
  pf Tryz.func173 (by kernel_rfl) C1.F173_ok (s1 trivial) charB_wp
theorem firstU (s : List UInt8) (h : s.length < 4611686018427387904) : PF A 138 [.str s] (encFirst (firstC s)) :=
  pf Tryz.func138 (by kernel_rfl) C1.F138_ok (s1 trivial) (first_wp hm rowU charU h)
theorem badU (s : List UInt8) (h : s.length < 4611686018427387904) : PF A 86 [.str s] (.int .i64 (badI s 0)) :=
  pf Tryz.func86 (by kernel_rfl) C1.F86_ok (s1 trivial) (bad_wp hm firstU h)
theorem validU (s : List UInt8) (h : s.length < 4611686018427387904) : PF A 82 [.str s] (.bool (validB s)) :=
  pf Tryz.func82 (by kernel_rfl) C1.F82_ok (s1 trivial) (validP_wp hm badU h)
theorem unlike (keys : List (List UInt8)) (hk : ∀ s ∈ keys, s.length < 4294967281) (hl : keys.length < 9223372036854775807) : PF A 84 [.sl 1 stat (strs keys)] (.bool (unlikeB [] keys)) :=
  pf Tryz.func84 (by kernel_rfl) C1.F84_ok (s1 (sK keys)) (unlike_wp hm validU (fun s h => by have := hk s h; omega) hl)
theorem formed : ∀ t : PT, t.sok → PF A 50 [encT t] (.bool (formedB t)) :=
  indT fun t ih h => pf Tryz.func50 (by kernel_rfl) C1.F50_ok (s1 (sta_T t)) (formed_wp hm normal (fun s h => validU s (by omega)) time unlike ih h)
theorem sizeP : ∀ t : PT, t.n < 4611686018427387904 → PF A 17 [encT t] (.int .i64 t.n) :=
  indT fun t ih h => pf Tryz.func17 (by kernel_rfl) C1.F17_ok (s1 (sta_T t)) (size_wp hm (fun u hu => ih u hu (by omega)) h)
theorem depthP : ∀ t : PT, t.n < 4611686018427387904 → PF A 18 [encT t] (.int .i64 t.dp) :=
  indT fun t ih h => pf Tryz.func18 (by kernel_rfl) C1.F18_ok (s1 (sta_T t)) (depth_wp hm (fun u hu => ih u hu (by omega)) h)
theorem right (t : PT) (h : t.n < 4611686018427387904) (hk : t.sok) : PF A 16 [encT t] (.int .i64 (rightB t)) :=
  pf Tryz.func16 (by kernel_rfl) C1.F16_ok (s1 (sta_T t)) (right_wp hm depthP sizeP formed h hk)

/-! ### the law without arguments -/
theorem runs : PF A 3 [] (.bool true) :=
  PF.of_init gtSta trivial (AC_mono _ _ _ _ _ (exec2_sound Tryz.checked.mixed C1.tabOK prims 200 3 [] St.init retTrue ran) fun r S1 q => by
    cases r with
    | ret x => cases x <;> simp only [retTrue, Bool.false_eq_true] at q; subst q; exact ⟨_, rfl, by simp only [Rdo]⟩
    | pan x => simp [retTrue] at q)

end Go.Proofs.YthgidapmofcloaaGreatDoor.Fn

namespace Go.Dn
open Go

theorem atT_set {t : PT} {i : Nat} {x : PT} {s : PS} : atT (.mk t.k t.s t.keys (t.kids.set i x)) s = atT t s := by
  obtain ⟨a, b, c, d⟩ := t
  obtain ⟨key, num⟩ := s
  simp only [PT.k, PT.s, PT.keys, PT.kids]
  rw [atT_mk, atT_mk, List.length_set]

theorem setT_cons {w t : PT} {s : PS} {r : List PS} {x : PT} (h : setT w t (s :: r) = some x) :
    ∃ (m : Nat) (hm : m < t.kids.length) (y : PT), atT t s = m ∧ setT w t.kids[m] r = some y ∧ x = .mk t.k t.s t.keys (t.kids.set m y) := by
  simp only [setT] at h
  split at h
  · cases h
  · rename_i hneg
    rcases atT_lt t s with e | ⟨e1, e2⟩
    · omega
    · refine ⟨(atT t s).toNat, by omega, ?_⟩
      rw [List.getElem?_eq_getElem (by omega)] at h
      simp only at h
      split at h
      · cases h
      · rename_i y hy
        cases h
        exact ⟨y, by omega, hy, rfl⟩

theorem getT_cons {t : PT} {s : PS} {r : List PS} {m : Nat} (hm : m < t.kids.length) (h : atT t s = m) : getT t (s :: r) = getT t.kids[m] r := by
  simp only [getT]
  rw [h, if_neg (by omega), Int.toNat_natCast, List.getElem?_eq_getElem hm]

theorem get_set : ∀ {p : List PS} {w t x : PT}, setT w t p = some x → getT x p = some w
  | [], w, t, x, h => by simp only [setT, Option.some.injEq] at h; rw [← h]; rfl
  | s :: r, w, t, x, h => by
    obtain ⟨m, hm, y, h1, h2, rfl⟩ := setT_cons h
    have hm' : m < (t.kids.set m y).length := by rw [List.length_set]; exact hm
    rw [getT_cons (t := .mk t.k t.s t.keys (t.kids.set m y)) hm' (by rw [atT_set]; exact h1)]
    show getT ((t.kids.set m y)[m]) r = some w
    rw [List.getElem_set_self]
    exact get_set h2

theorem set_some {w : PT} : ∀ {p : List PS} {t : PT}, (setT w t p).isSome = (getT t p).isSome
  | [], t => rfl
  | s :: r, t => by
    simp only [setT, getT]
    split
    · rfl
    · cases hk : t.kids[(atT t s).toNat]? with
      | none => rfl
      | some k =>
        simp only
        rw [← set_some (w := w) (p := r) (t := k)]
        cases setT w k r <;> rfl

theorem plc_inj {a b : List UInt8} : ∀ {l : List (List UInt8)} {i : Nat}, 0 ≤ plc a l i → plc a l i = plc b l i → a = b
  | [], i, h, _ => by simp [plc] at h
  | c :: r, i, h, e => by
    simp only [plc] at h e
    by_cases ha : c = a
    · by_cases hb : c = b
      · rw [← ha, hb]
      · rw [if_pos ha, if_neg hb] at e
        rcases plc_lt b r (i + 1) with q | q <;> omega
    · by_cases hb : c = b
      · rw [if_neg ha, if_pos hb] at e
        rcases plc_lt a r (i + 1) with q | q <;> omega
      · rw [if_neg ha] at h
        rw [if_neg ha, if_neg hb] at e
        exact plc_inj h e

theorem atT_inj {t : PT} {a b : PS} (h0 : 0 ≤ atT t a) (h : atT t a = atT t b) : a = b := by
  obtain ⟨ka, na⟩ := a
  obtain ⟨kb, nb⟩ := b
  unfold atT at h0 h
  simp only at h0 h
  by_cases k6 : t.k = 6
  · simp only [if_pos k6] at h0 h
    by_cases ca : ka = [] ∧ 0 ≤ na ∧ na < t.kids.length
    · rw [if_pos ca] at h0 h
      by_cases cb : kb = [] ∧ 0 ≤ nb ∧ nb < t.kids.length
      · rw [if_pos cb] at h
        rw [ca.1, cb.1, h]
      · rw [if_neg cb] at h; omega
    · rw [if_neg ca] at h0; omega
  · simp only [if_neg k6] at h0 h
    by_cases ca : t.k = 7 ∧ na = 0 ∧ plc ka t.keys 0 < t.kids.length
    · rw [if_pos ca] at h0 h
      by_cases cb : t.k = 7 ∧ nb = 0 ∧ plc kb t.keys 0 < t.kids.length
      · rw [if_pos cb] at h
        rw [plc_inj h0 h, ca.2.1, cb.2.1]
      · rw [if_neg cb] at h; omega
    · rw [if_neg ca] at h0; omega

/-- paths that part -/
def Apart : List PS → List PS → Prop
  | a :: p, b :: q => a ≠ b ∨ (a = b ∧ Apart p q)
  | _, _ => False

theorem get_apart : ∀ {p q : List PS} {w t x : PT}, setT w t p = some x → Apart p q → getT x q = getT t q
  | a :: p, b :: q, w, t, x, h, hd => by
    obtain ⟨m, hm, y, h1, h2, rfl⟩ := setT_cons h
    have hm' : m < (t.kids.set m y).length := by rw [List.length_set]; exact hm
    rcases hd with hne | ⟨rfl, hd⟩
    · rcases atT_lt t b with e | ⟨e1, e2⟩
      · simp only [getT]
        rw [atT_set, e]
        rfl
      · have hne' : atT t b ≠ m := fun e => hne (atT_inj (t := t) (by omega) (by rw [h1, e]))
        obtain ⟨j, hj⟩ : ∃ j : Nat, atT t b = j := ⟨(atT t b).toNat, by omega⟩
        have hj' : j < t.kids.length := by omega
        rw [getT_cons hj' hj, getT_cons (t := .mk t.k t.s t.keys (t.kids.set m y)) (m := j) (by show j < (t.kids.set m y).length; rw [List.length_set]; exact hj') (by rw [atT_set]; exact hj)]
        show getT ((t.kids.set m y)[j]'(by rw [List.length_set]; exact hj')) q = _
        rw [List.getElem_set_ne (by omega)]
    · rw [getT_cons hm h1, getT_cons (t := .mk t.k t.s t.keys (t.kids.set m y)) hm' (by rw [atT_set]; exact h1)]
      show getT ((t.kids.set m y)[m]) q = _
      rw [List.getElem_set_self]
      exact get_apart h2 hd
  | [], q, _, _, _, _, hd => by cases q <;> exact hd.elim
  | a :: p, [], _, _, _, _, hd => hd.elim
end Go.Dn

namespace Go.Dn
open Go Go.Proofs.C1
set_option maxRecDepth 100000
attribute [local irreducible] afterS keepE

theorem apart_of : ∀ {p q : List PS} {i : Nat} (hp : i < p.length) (hq : i < q.length), p.take i = q.take i → p[i] ≠ q[i] → Apart p q
  | a :: p, b :: q, 0, _, _, _, h => .inl h
  | a :: p, b :: q, i + 1, hp, hq, e, h => by
    simp only [List.take_succ_cons, List.cons.injEq] at e
    exact .inr ⟨e.1, apart_of (by simpa using hp) (by simpa using hq) e.2 h⟩

section
variable {gt : GT} {C : CallT}

abbrev E_sg (q o : List PS) (t x : PT) (ap : Bool) (i : Int) : Env := [(2, .val (.sl 2 stat (encSs q))), (3, .val (.sl 2 stat (encSs o))), (4, .box (encT t).cells), (9, .box (encT x).cells), (15, .val (.bool ap)), (16, .val (.int .i64 i))]

set_option maxHeartbeats 8000000 in
/-- behind the two cuts -/
theorem setGetTail_wp (hm : MonoC C) (hruns : PF C 3 [] (.bool true))
    (hget : ∀ (t : PT) (path : List PS), t.ok → path.length ≤ 4611686018427387904 → PF C 21 [encT t, .sl 2 stat (encSs path)] (encGet (getT t path)))
    (hset : ∀ (t w : PT) (path : List PS), t.ok → w.ok → path.length ≤ 4611686018427387904 → PF C 23 [encT t, encT w, .sl 2 stat (encSs path)] (encSet (setT w t path)))
    (hplain : ∀ t u : PT, t.ok → PF C 32 [encT t, encT u] (.bool (eqT t u)))
    {t w : PT} {q o : List PS} {z : Env} (hk : t.ok) (hw : w.ok) (hq : q.length ≤ 70) (ho : o.length ≤ 70) :
    wpD gt C F12.body.rt.rt.rt.rt ((2, .val (.sl 2 stat (encSs q))) :: (3, .val (.sl 2 stat (encSs o))) :: (4, .box (encT t).cells) :: (5, .box (encT w).cells) :: z) St.init (bodyQ gt F12.res (Ret (.bool true))) := by
  have l1 := encSs_len q
  have l2 := encSs_len o
  have hs := hset t w q hk hw (by omega)
  have hg := hget t q hk (by omega)
  have hgo := hget t o hk (by omega)
  have hok := fun x => setT_ok (p := q) (x := x) hw hk
  have hgs := fun x => get_set (p := q) (w := w) (t := t) (x := x)
  have hap := fun x => get_apart (p := q) (q := o) (w := w) (t := t) (x := x)
  have hss := set_some (w := w) (p := q) (t := t)
  have hpw := hplain w w hw
  rw [eqT_true rfl] at hpw
  have hgok := fun x => getT_ok (p := o) (t := t) (x := x) hk
  generalize setT w t q = sr at hs hok hgs hap hss
  generalize getT t q = gr at hg hss
  generalize getT t o = go' at hgo hap hgok
  obtain ⟨k, s, keys, kids⟩ := t
  obtain ⟨wk, ws, wkeys, wkids⟩ := w
  conv => whnf
  refine goW ?_
  refine call_pf hm (by rfl) hs ?_
  cases sr with
  | none =>
    refine goW ?_
    refine call_pf hm (by rfl) hg ?_
    cases gr with
    | some y => cases hss
    | none =>
    refine goW ?_
    refine call_pf hm (by rfl) hruns ?_
    refine goW ?_
    exact ⟨_, rfl, Ret.sta trivial⟩
  | some x =>
  have hxk := hok x rfl
  have hgs := hgs x rfl
  have hap := hap x rfl
  have hgx := hget x q hxk (by omega)
  rw [hgs] at hgx
  have hgxo := hget x o hxk (by omega)
  obtain ⟨xk, xs, xkeys, xkids⟩ := x
  refine goW ?_
  refine call_pf hm (by rfl) hg ?_
  cases gr with
  | none => cases hss
  | some y =>
  obtain ⟨yk, ys, ykeys, ykids⟩ := y
  refine goW ?_
  refine call_pf hm (by rfl) hgx ?_
  refine goW ?_
  refine call_pf hm (by rfl) hpw ?_
  refine goW ?_
  refine loop_rule hm (α := Nat × Bool) (fun a env S' => a.1 ≤ q.length ∧ env = E_sg q o (.mk k s keys kids) (.mk xk xs xkeys xkids) a.2 a.1 ∧ S' = St.init ∧ (a.2 = true → Apart q o) ∧ (a.2 = false → q.take a.1 = o.take a.1)) (fun a => q.length - a.1) ?_ (a := (0, false)) ⟨Nat.zero_le _, rfl, rfl, (fun h => by cases h), fun _ => rfl⟩
  rintro ⟨i, ap⟩ env S' ⟨hi, rfl, rfl, h1, h0⟩
  simp only at hi h1 h0
  have fin : (ap = true → getT (.mk xk xs xkeys xkids) o = go') → True := fun _ => trivial
  clear fin
  cases ap with
  | true =>
    have hap := hap (h1 rfl)
    rw [hap] at hgxo
    clear hap h1 h0
    refine goW ?_
    by_cases hc1 : (i : Int) < (encSs q).length
    · rw [decide_eq_true hc1]
      refine goW ?_
      by_cases hc2 : (i : Int) < (encSs o).length
      · rw [decide_eq_true hc2]
        refine goW ?_
        cases go' with
        | none =>
          have hp0 := hplain PT.zero PT.zero zeroT_ok
          rw [eqT_true rfl] at hp0
          refine call_pf hm (by rfl) hgo ?_
          refine goW ?_
          refine call_pf hm (by rfl) hgxo ?_
          refine goW ?_
          refine call_pf hm (by rfl) hp0 ?_
          refine goW ?_
          refine call_pf hm (by rfl) hruns ?_
          refine goW ?_
          exact ⟨_, rfl, Ret.sta trivial⟩
        | some g =>
          have hp0 := hplain g g (hgok g rfl)
          rw [eqT_true rfl] at hp0
          obtain ⟨gk, gs, gkeys, gkids⟩ := g
          refine call_pf hm (by rfl) hgo ?_
          refine goW ?_
          refine call_pf hm (by rfl) hgxo ?_
          refine goW ?_
          refine call_pf hm (by rfl) hp0 ?_
          refine goW ?_
          refine call_pf hm (by rfl) hruns ?_
          refine goW ?_
          exact ⟨_, rfl, Ret.sta trivial⟩
      · rw [decide_eq_false hc2]
        refine goW ?_
        cases go' with
        | none =>
          have hp0 := hplain PT.zero PT.zero zeroT_ok
          rw [eqT_true rfl] at hp0
          refine call_pf hm (by rfl) hgo ?_
          refine goW ?_
          refine call_pf hm (by rfl) hgxo ?_
          refine goW ?_
          refine call_pf hm (by rfl) hp0 ?_
          refine goW ?_
          refine call_pf hm (by rfl) hruns ?_
          refine goW ?_
          exact ⟨_, rfl, Ret.sta trivial⟩
        | some g =>
          have hp0 := hplain g g (hgok g rfl)
          rw [eqT_true rfl] at hp0
          obtain ⟨gk, gs, gkeys, gkids⟩ := g
          refine call_pf hm (by rfl) hgo ?_
          refine goW ?_
          refine call_pf hm (by rfl) hgxo ?_
          refine goW ?_
          refine call_pf hm (by rfl) hp0 ?_
          refine goW ?_
          refine call_pf hm (by rfl) hruns ?_
          refine goW ?_
          exact ⟨_, rfl, Ret.sta trivial⟩
    · rw [decide_eq_false hc1]
      refine goW ?_
      cases go' with
      | none =>
        have hp0 := hplain PT.zero PT.zero zeroT_ok
        rw [eqT_true rfl] at hp0
        refine call_pf hm (by rfl) hgo ?_
        refine goW ?_
        refine call_pf hm (by rfl) hgxo ?_
        refine goW ?_
        refine call_pf hm (by rfl) hp0 ?_
        refine goW ?_
        refine call_pf hm (by rfl) hruns ?_
        refine goW ?_
        exact ⟨_, rfl, Ret.sta trivial⟩
      | some g =>
        have hp0 := hplain g g (hgok g rfl)
        rw [eqT_true rfl] at hp0
        obtain ⟨gk, gs, gkeys, gkids⟩ := g
        refine call_pf hm (by rfl) hgo ?_
        refine goW ?_
        refine call_pf hm (by rfl) hgxo ?_
        refine goW ?_
        refine call_pf hm (by rfl) hp0 ?_
        refine goW ?_
        refine call_pf hm (by rfl) hruns ?_
        refine goW ?_
        exact ⟨_, rfl, Ret.sta trivial⟩
  | false =>
    have h0 := h0 rfl
    refine goW ?_
    by_cases hc1 : (i : Int) < (encSs q).length
    · rw [decide_eq_true hc1]
      refine goW ?_
      by_cases hc2 : (i : Int) < (encSs o).length
      · rw [decide_eq_true hc2]
        refine goW ?_
        have hiq : i < q.length := by omega
        have hio : i < o.length := by omega
        have hgq := encSs_get hiq
        have hgo2 := encSs_get hio
        have hne : ∀ b : Bool, b = (!(beqB q[i].key o[i].key && (q[i].num == o[i].num))) → (b = true → Apart q o) ∧ (b = false → q.take (i + 1) = o.take (i + 1)) := fun b hb => by
          refine ⟨fun h => apart_of hiq hio h0 fun e => ?_, fun h => ?_⟩
          · rw [hb, eqS_iff.2 e] at h; cases h
          · have : (beqB q[i].key o[i].key && (q[i].num == o[i].num)) = true := by
              cases hh : (beqB q[i].key o[i].key && (q[i].num == o[i].num)) with
              | true => rfl
              | false => rw [hb, hh] at h; cases h
            rw [List.take_succ_eq_append_getElem hiq, List.take_succ_eq_append_getElem hio, h0, eqS_iff.1 this]
        generalize q[i] = a at hgq hne
        generalize o[i] = b at hgo2 hne
        obtain ⟨ak, an⟩ := a
        obtain ⟨bk, bn⟩ := b
        refine step_ruleDO rfl rfl (sx_ia (k := i) rfl rfl (by omega)) ?_
        refine goW ?_
        refine step_ruleDO rfl rfl (sx_ldEl (agg := true) rfl rfl hgq (rdS _)) ?_
        refine goW ?_
        refine step_ruleDO rfl rfl (sx_ia (k := i) rfl rfl (by omega)) ?_
        refine goW ?_
        refine step_ruleDO rfl rfl (sx_ldEl (agg := true) rfl rfl hgo2 (rdS _)) ?_
        refine goW ?_
        refine step_ruleDO rfl rfl (st_neS rfl rfl) ?_
        simp only at hne
        generalize hb : (!(beqB ak bk && (an == bn))) = b at hne ⊢
        refine goW ?_
        obtain ⟨n1, n2⟩ := hne b rfl
        refine ⟨(i + 1, b), ⟨by simp only; omega, ?_, rfl, n1, n2⟩, by simp only; omega⟩
        rw [wrNat (by omega)]; try rfl
      · rw [decide_eq_false hc2]
        refine goW ?_
        refine call_pf hm (by rfl) hruns ?_
        refine goW ?_
        exact ⟨_, rfl, Ret.sta trivial⟩
    · rw [decide_eq_false hc1]
      refine goW ?_
      refine call_pf hm (by rfl) hruns ?_
      refine goW ?_
      exact ⟨_, rfl, Ret.sta trivial⟩
end
end Go.Dn

namespace Go.Dn
open Go Go.Proofs.C1
set_option maxRecDepth 100000
attribute [local irreducible] afterS keepE

section
variable {gt : GT} {C : CallT}

set_option maxHeartbeats 8000000 in
/-- behind the first cut -/
theorem setGetMid_wp (hm : MonoC C) {t w : PT} {q o0 : List PS} {z : Env} (ho : o0.length ≤ 140737488355328)
    (tail : ∀ (o : List PS) (z : Env), o.length ≤ 70 → wpD gt C F12.body.rt.rt.rt.rt ((2, .val (.sl 2 stat (encSs q))) :: (3, .val (.sl 2 stat (encSs o))) :: (4, .box (encT t).cells) :: (5, .box (encT w).cells) :: z) St.init (bodyQ gt F12.res (Ret (.bool true)))) :
    wpD gt C F12.body.rt.rt.rt ((2, .val (.sl 2 stat (encSs q))) :: (3, .val (.sl 2 stat (encSs o0))) :: (4, .box (encT t).cells) :: (5, .box (encT w).cells) :: z) St.init (bodyQ gt F12.res (Ret (.bool true))) := by
  have l0 := encSs_len o0
  conv => whnf
  refine goW ?_
  by_cases h70 : ((encSs o0).length : Int) > 70
  · rw [decide_eq_true h70]
    refine goW ?_
    refine step_ruleO (sx_slHi (h := 70) rfl rfl (by omega)) ?_
    rw [encSs_take]
    refine goK ?_
    with_unfolding_all exact tail (o0.take 70) _ (by rw [List.length_take]; omega)
  · rw [decide_eq_false h70]
    refine goK ?_
    with_unfolding_all exact tail o0 _ (by omega)

set_option maxHeartbeats 8000000 in
theorem treeSetGet_wp (hm : MonoC C) (hruns : PF C 3 [] (.bool true)) (hsmall : ∀ u : PT, PF C 26 [encT u] (.bool (smallB u)))
    (hget : ∀ (t : PT) (path : List PS), t.ok → path.length ≤ 4611686018427387904 → PF C 21 [encT t, .sl 2 stat (encSs path)] (encGet (getT t path)))
    (hset : ∀ (t w : PT) (path : List PS), t.ok → w.ok → path.length ≤ 4611686018427387904 → PF C 23 [encT t, encT w, .sl 2 stat (encSs path)] (encSet (setT w t path)))
    (hplain : ∀ t u : PT, t.ok → PF C 32 [encT t, encT u] (.bool (eqT t u)))
    {t w : PT} (hright : PF C 16 [encT t] (.int .i64 (rightB t))) {path other : List PS} (hk : t.ok) (hw : w.ok) (hp : path.length ≤ 140737488355328) (ho : other.length ≤ 140737488355328) :
    wpF gt C F12 [encT t, encT w, .sl 2 stat (encSs path), .sl 2 stat (encSs other)] St.init (Ret (.bool true)) := by
  have hst := hsmall t
  have hsw := hsmall w
  have l0 := encSs_len path
  have tail := fun (q o : List PS) (z : Env) (hq : q.length ≤ 70) (ho : o.length ≤ 70) => setGetTail_wp (gt := gt) hm hruns hget hset hplain (t := t) (w := w) (q := q) (o := o) (z := z) hk hw hq ho
  have mid := fun (q : List PS) (z : Env) (hq : q.length ≤ 70) => setGetMid_wp (gt := gt) hm (t := t) (w := w) (q := q) (o0 := other) (z := z) ho (fun o z h => tail q o z hq h)
  clear tail
  generalize smallB t = bt at hst
  generalize smallB w = bw at hsw
  generalize rightB t = rt at hright
  obtain ⟨k, s, keys, kids⟩ := t
  obtain ⟨wk, ws, wkeys, wkids⟩ := w
  refine ⟨rfl, ?_⟩
  refine goW ?_
  refine call_pf hm (by rfl) hst ?_
  cases bt with
  | false =>
    refine goW ?_
    refine call_pf hm (by rfl) hruns ?_
    refine goW ?_
    exact ⟨_, rfl, Ret.sta trivial⟩
  | true =>
  refine goW ?_
  refine call_pf hm (by rfl) hsw ?_
  cases bw with
  | false =>
    refine goW ?_
    refine call_pf hm (by rfl) hruns ?_
    refine goW ?_
    exact ⟨_, rfl, Ret.sta trivial⟩
  | true =>
  refine goW ?_
  refine call_pf hm (by rfl) hright ?_
  refine goW ?_
  by_cases zr : rt = 0
  case neg =>
    rw [neI_true zr]
    refine goW ?_
    refine call_pf hm (by rfl) hruns ?_
    refine goW ?_
    exact ⟨_, rfl, Ret.sta trivial⟩
  rw [neI_false zr]
  refine goW ?_
  by_cases h70 : ((encSs path).length : Int) > 70
  · rw [decide_eq_true h70]
    refine goW ?_
    refine step_ruleO (sx_slHi (h := 70) rfl rfl (by omega)) ?_
    rw [encSs_take]
    refine goK ?_
    with_unfolding_all exact mid (path.take 70) _ (by rw [List.length_take]; omega)
  · rw [decide_eq_false h70]
    refine goK ?_
    with_unfolding_all exact mid path _ (by omega)
end
end Go.Dn

namespace Go.Proofs.YthgidapmofcloaaGreatDoor
open Go.Dn Go.Proofs.YthgidapmofcloaaGreatDoor.Fn

theorem bulk_keys : ∀ l : List (List UInt8), bulkAs (strs l) ≤ 1048576 → (∀ s ∈ l, s.length ≤ 1048576) ∧ l.length ≤ 1048576
  | [], _ => ⟨fun s h => by simp at h, by simp⟩
  | a :: r, h => by
    have e : strs (a :: r) = .str a :: strs r := rfl
    rw [e] at h
    simp only [bulkAs, bulkA] at h
    have ih := bulk_keys r (by omega)
    have h0 := bulk_strs0 r
    refine ⟨fun s hs => ?_, by simp only [List.length_cons]; omega⟩
    rcases List.mem_cons.1 hs with rfl | hs
    · omega
    · exact ih.1 s hs
mutual
theorem bulk_sok : ∀ t : PT, bulkA (encT t) ≤ 1048576 → t.sok ∧ t.n ≤ bulkA (encT t)
  | .mk k s keys kids, h => by
    simp only [encT, bulkA, bulkAs] at h ⊢
    have h1 := bulk_keys keys (by omega)
    have h2 := bulk_soks kids (by omega)
    have h3 := bulk_Ts kids (by omega)
    simp only [PT.sok, PT.n]
    exact ⟨⟨by omega, fun s hs => by have := h1.1 s hs; omega, by omega, by omega, h2.1⟩, by omega⟩
theorem bulk_soks : ∀ l : List PT, bulkAs (encTs l) ≤ 1048576 → PT.soks l ∧ PT.ns l ≤ bulkAs (encTs l)
  | [], _ => ⟨trivial, Nat.zero_le _⟩
  | t :: r, h => by
    simp only [encTs, bulkAs] at h
    have h1 := bulk_sok t (by omega)
    have h2 := bulk_soks r (by omega)
    simp only [PT.soks, encTs, bulkAs, PT.ns]
    exact ⟨⟨h1.1, h2.1⟩, by omega⟩
end

theorem TreeSetGet.law {t w : PT} {path other : List PS} (hk : t.ok) (hs : t.sok) (hn : t.n < 4611686018427387904) (hw : w.ok) (hp : path.length ≤ 140737488355328) (ho : other.length ≤ 140737488355328) :
    A 12 [encT t, encT w, .sl 2 stat (encSs path), .sl 2 stat (encSs other)] St.init (Ret (.bool true)) :=
  AC_intro Tryz.checked.mixed Tryz.func12 (by kernel_rfl) Go.Proofs.C1.F12_ok (treeSetGet_wp Fn.hm Fn.runs Fn.small Fn.get Fn.set Fn.plain (Fn.right t hn hs) hk hw hp ho)
end Go.Proofs.YthgidapmofcloaaGreatDoor

namespace Go.Proofs.YthgidapmofcloaaGreatDoor.TreeSetGet
open Go.ChangeShapes Go.WideShapes Go.ChangeAt Go.RowKit Go.Dn Go.Proofs.YthgidapmofcloaaGreatDoor.Fn

theorem laidOut : laidOutB Tryz.prog = true := by kernel_rfl

theorem walk {W : World} (hI : Inv Tryz.prog gtT St.init (G0 W) W) {args : Array Value} {xs : List AV} {f : FuncId} (hac : A f xs St.init (Ret (.bool true))) (hx : Rl St.init (G0 W) W xs args.toList) : Calls Tryz.prog f args W fun e W' => e = .returned (.bool true) ∧ Below W.heap.size W W' := by
  refine Calls.mono (hac.2 (G0 W) W args.toList hI hx) fun e W' hp => ?_
  cases e with
  | returned v =>
    obtain ⟨x, S', G', ⟨y, hy, hr⟩, t, rv⟩ := hp
    cases hy
    simp only [Rdo] at hr
    subst hr
    refine ⟨?_, below_of_ext t.ext⟩
    simp only [Rv] at rv
    rw [rv]
  | panicked chain =>
    obtain ⟨x, S', G', u, hc, ⟨y, hy, hr⟩, _⟩ := hp
    cases hy
  | outgrown => exact hp.elim

/-! ### what is read -/
theorem types : okTypes Tryz.prog [25, 23, 22, 9, 3, 60, 40] = true := by kernel_rfl
theorem wantsT : Tryz.pinned.checked.prog.wantsStandIn 25 = false := by kernel_rfl
theorem wantsS : Tryz.pinned.checked.prog.wantsStandIn 60 = false := by kernel_rfl

theorem isUb {H : Type} : IsUb (Rows.uptoBulk (H := H)) Rows.uptoBulkAll where
  lit l := by cases l <;> simp [Rows.uptoBulk]
  str s := by simp [Rows.uptoBulk]
  nil := by simp [Rows.uptoBulk]
  slice a b := by simp [Rows.uptoBulk]
  agg a := by simp [Rows.uptoBulk]
  none := by simp [Rows.uptoBulkAll]
  cons d r := by simp [Rows.uptoBulkAll]

set_option maxRecDepth 1000000 in
theorem entryT {H : Type} {enc : TypeId × Value → H} {W : World} {v : Value} {d : DataW H} {p : List MemPlace} {base : Nat} (hv : Value.okWide Tryz.prog W .any base 25 v) (h : DataW.Trod enc Tryz.prog W 0 (fun _ => true) true 25 v d p) :
    ∃ n : PT, Rv St.init (G0 W) W (encT n) v ∧ bulkA (encT n) ≤ Rows.uptoBulk d := by
  obtain ⟨fuel, hf⟩ := h
  obtain ⟨zs, hr, ht, hb⟩ := trod_avb isUb types fuel 25 _ _ (by decide) hf
  obtain ⟨n, hn⟩ := av_tree ht
  refine ⟨n, ?_, ?_⟩
  · rw [← hn]
    obtain ⟨vs, rfl, _⟩ := okWide_struct Tryz.underlying25 hv
    simp only [Rv]
    exact ⟨_, rfl, hr⟩
  · rw [← hn]
    have : sb Tryz.prog 25 = 1 := by unfold sb; rw [Tryz.underlying25]
    rw [this] at hb
    simpa only [bulkA] using hb

set_option maxRecDepth 1000000 in
theorem entryS {H : Type} {enc : TypeId × Value → H} {W : World} {v : Value} {d : DataW H} {p : List MemPlace} {base : Nat} (hv : Value.okWide Tryz.prog W .any base 60 v) (h : DataW.Trod enc Tryz.prog W 0 (fun _ => true) true 60 v d p) :
    ∃ l : List PS, Rv St.init (G0 W) W (.sl 2 stat (encSs l)) v ∧ l.length ≤ Rows.uptoBulk d := by
  obtain ⟨a, len, cap, rfl⟩ := okWide_slice u_steps hv
  obtain ⟨fuel, hf⟩ := h
  obtain ⟨zs, hr, ht, hb⟩ := trod_avb isUb types fuel 60 _ _ (by decide) hf
  obtain ⟨l, rfl⟩ := av_steps ht
  have hu : (Value.slice a len cap).cells.toList = [.slice a len cap] := rfl
  rw [hu] at hr
  simp only [Rl] at hr
  obtain ⟨u, r, e1, e2, rfl⟩ := hr
  cases e1
  refine ⟨l, e2, ?_⟩
  have := bulk_Ss l
  simp only [bulkAs, bulkA] at hb
  omega

/-! ### the row -/
abbrev zeroTree : Value := .agg #[.int .i64 0, .string .empty, .slice none 0 0, .slice none 0 0]
abbrev zeroData (H : Type) : DataW H := .agg [.lit (.int .i64 0), .lit (.string []), .nil, .nil]
abbrev zeros : Array Value := #[zeroTree, zeroTree, .slice none 0 0, .slice none 0 0]

theorem reads (os : Os) {H : Type} (enc : TypeId × Value → H) : ∃ places, DataW.whole enc Tryz.prog ((laidW os).forCall (fun _ _ => 0) ⟨#[], zeros, []⟩).memory Tryz.f12.params.toList Rows.treeSetGetSpec.vars false zeros.toList 8 = some ([zeroData H, zeroData H, .nil, .nil], [], places) :=
  ⟨[], by kernel_rfl⟩

set_option maxRecDepth 100000 in
theorem lifted (os : Os) (started : os.Started) (H : Type) (enc : TypeId × Value → H) (F : Stop.Interp) :
    ReturnsInHanded {} Tryz.checked os 12 .any ((Rows.OpenSpec.upto Rows.treeSetGetSpec).preRow enc Tryz.prog Tryz.f12 Rows.treeSetGetUptoRow.domain false Rows.treeSetGetUptoRow.laid)
      (((Rows.OpenSpec.upto Rows.treeSetGetSpec).at F).post enc Tryz.prog Tryz.f12 false true false false) := by
  obtain ⟨places, hx⟩ := reads os enc
  refine returnsInHanded_of_row (C := Tryz.checked) (s := Rows.OpenSpec.upto Rows.treeSetGetSpec) own started (by kernel_rfl) Tryz.func12
    (witness_row_atRef (enc := enc) (C := Tryz.checked) false (laidW os) zeros (laidW_os _) (by kernel_rfl) (by kernel_rfl) (by kernel_rfl)
      (OpenSpec.preRow_of_cond 8 hx (by kernel_rfl) (fun k hk => by cases hk; kernel_rfl) (by kernel_rfl) (laidW_met os _))) ?_
  intro W base args ds gs before hval0 hW _ hcond _ hL _ _
  have hval : ∀ (j : Nat) t v, Tryz.f12.params[j]? = some t → args[j]? = some v → Value.okWide Tryz.prog W .any base t v := hval0
  have hW' := hW
  obtain ⟨p, q, hA0, hV, rfl, hfz, hnd⟩ := hW
  have hA : DataW.TrodAll enc Tryz.prog W 0 (fun _ => true) true Tryz.f12.params.toList args.toList ds p := hA0
  rw [Tryz.params12] at hA hval
  obtain ⟨v0, v1, v2, v3, d0, d1, d2, d3, p0, p1, p2, p3, rfl, rfl, rfl, h0, h1, h2, h3⟩ := trodAll_four hA
  obtain ⟨rfl, rfl⟩ := trodVars_none hV
  clear hA0 hval0
  simp only [List.append_nil] at hW'
  have hb : Rows.uptoBulkAll [d0, d1, d2, d3] ≤ 1048576 := by
    have := hcond _ rfl
    rw [List.append_nil] at this
    exact of_decide_eq_true this
  simp only [Rows.uptoBulkAll] at hb
  obtain ⟨x0, hv0, hb0⟩ := entryT (hval 0 25 v0 rfl rfl) h0
  obtain ⟨x1, hv1, hb1⟩ := entryT (hval 1 25 v1 rfl rfl) h1
  obtain ⟨x2, hv2, hb2⟩ := entryS (hval 2 60 v2 rfl rfl) h2
  obtain ⟨x3, hv3, hb3⟩ := entryS (hval 3 60 v3 rfl rfl) h3
  refine (walk (inv_of_laid hL) (law (bulk_T x0 (by omega)) (bulk_sok x0 (by omega)).1 (by have := (bulk_sok x0 (by omega)).2; omega) (bulk_T x1 (by omega)) (by omega) (by omega)) (Rl.cons hv0 (Rl.cons hv1 (Rl.cons hv2 (Rl.cons hv3 Rl.nil))))).mono fun e W' ⟨he, bel⟩ => ?_
  subst he
  have hlt : ∀ x ∈ p0 ++ p1 ++ p2 ++ p3, x.block < W.heap.size := fun x hx => hW'.lt x (by simpa only [List.append_assoc] using hx)
  exact ⟨_, rfl, _, _, _, [], _, [], hW', trodAll_mk1 (shut_bool Tryz.underlying4 _),
    trodAll_mk4 (Below.trod laidOut (by kernel_rfl) (of_decide_eq_true (by kernel_rfl)) h0 bel (fun x hx => hlt x (by simp [hx]))) (Below.trod laidOut (by kernel_rfl) (of_decide_eq_true (by kernel_rfl)) h1 bel (fun x hx => hlt x (by simp [hx]))) (Below.trod laidOut (by kernel_rfl) (of_decide_eq_true (by kernel_rfl)) h2 bel (fun x hx => hlt x (by simp [hx]))) (Below.trod laidOut (by kernel_rfl) (of_decide_eq_true (by kernel_rfl)) h3 bel (fun x hx => hlt x (by simp [hx]))), rfl, bel.frame _, fun h => by cases h⟩

end Go.Proofs.YthgidapmofcloaaGreatDoor.TreeSetGet
