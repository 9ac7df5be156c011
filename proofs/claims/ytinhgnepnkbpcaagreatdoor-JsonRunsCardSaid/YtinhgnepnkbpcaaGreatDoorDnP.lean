/- From loaded code to the abstract interpreter's code. -/
import Derived.Test.YtinhgnepnkbpcaaGreatDoorDnA
set_option linter.unusedSimpArgs false
set_option linter.unusedVariables false
namespace Go.Dn
open Go

def isAggP (P : Program) (t : TypeId) : Option Bool :=
  match P.underlying t with
  | some (.struct _) | some (.array _ _) => some true
  | some _ => some false
  | none => none

def sizeP (P : Program) (t : TypeId) : Option Nat := (P.info? t).map (·.size)

def esP (P : Program) (t : TypeId) : Option Nat :=
  match P.underlying t with
  | some (.slice e) => sizeP P e
  | _ => none

/-- one cell's value of a constant -/
def cell1 (es : Nat) : Value → Option AV
  | .bool b => some (.bool b)
  | .int k n => some (.int k n)
  | .string s => some (.str s.data.toList)
  | .pointer none => some .nilp
  | .slice none 0 0 => some (.sl es ⟨none, 0, some 0, true⟩ [])
  | .map none => some .nilmap
  | .nilFunc => some .nilfn
  | .nilIface => some .nilif
  | _ => none

/-- for each cell of a type: the cells of its elements, where it is a slice -/
def cellEs (P : Program) : Nat → TypeId → List Nat
  | 0, _ => []
  | d + 1, t => match P.underlying t with
    | some (.struct fs) => fs.toList.flatMap fun f => cellEs P d f.type
    | some (.array n e) => (List.replicate n (cellEs P d e)).flatten
    | some (.slice e) => [(sizeP P e).getD 0]
    | _ => [0]

def cellsC : List Nat → List Value → Option (List AV)
  | [], [] => some []
  | e :: es, v :: vs => match cell1 e v, cellsC es vs with
    | some a, some r => some (a :: r)
    | _, _ => none
  | _, _ => none

def constC (P : Program) (t : TypeId) (v : Value) : Option AV :=
  match v with
  | .agg cs => (cellsC (cellEs P 12 t) cs.toList).map .agg
  | .tuple vs => if vs.size = 0 then some .undef else none
  | v => cell1 ((esP P t).getD 0) v

def zeroC (P : Program) (t : TypeId) : Option (List AV) :=
  match P.info? t with
  | some i => match i.zero with
    | some z => (constC P t z).map AV.cells
    | none => none
  | none => none

def opdP (P : Program) (t : TypeId) : Operand → Option DOpd
  | .tmp n => some (.t n)
  | .const v => (constC P t v).map .c
  | .global g => some (.g g)
  | .func f => some (.f f)

def opdsP (P : Program) : List TypeId → List Operand → Option (List DOpd)
  | [], [] => some []
  | t :: ts, x :: xs => match opdP P t x, opdsP P ts xs with
    | some a, some r => some (a :: r)
    | _, _ => none
  | _, _ => none

def eqkP (P : Program) : Nat → TypeId → Option EqK
  | 0, _ => none
  | d + 1, t => match P.underlying t with
    | some .bool => some .bool
    | some (.int _) => some .int
    | some .string => some .str
    | some (.pointer e) => match sizeP P e with
      | some (_ + 1) => some .ptr
      | _ => none
    | some (.slice _) => some .sl
    | some (.interface _) => some .ifc
    | some (.func _ _ _) => some .fn
    | some (.map _ _) => some .map
    | some (.struct fs) =>
      if P.stoodInHeld t then none else
      (fs.toList.mapM fun (f : Field) => if f.name = "_" then none else match isAggP P f.type with
        | some false => (eqkP P d f.type).map fun k => (f.offset, k)
        | _ => none).map .st
    | some (.array n e) => match isAggP P e, sizeP P e with
      | some false, some 1 => (eqkP P d e).map fun k => .st ((List.range n).map fun i => (i, k))
      | _, _ => none
    | _ => none

def isConstO : Operand → Bool
  | .const _ => true
  | _ => false

/-- what '==' is at a type, these operands being held against each other -/
def eqkO (P : Program) (t : TypeId) (x y : Operand) : Option EqK :=
  match eqkP P 8 t with
  | some .ifc => if isConstO x || isConstO y then some .ifc else none
  | some (.st fs) => if P.eqGuardType P.depth t then none else some (.st fs)
  | r => r

def simpleK : EqK → Bool
  | .bool | .int | .str => true
  | _ => false

def keyK (P : Program) (t : TypeId) : Option EqK :=
  match P.underlying t with
  | some .bool => some .bool
  | some (.int _) => some .int
  | some .string => some .str
  | some (.struct _) | some (.array _ _) => match eqkP P 8 t with
    | some (.st fs) => if fs.all (fun p => simpleK p.2) then some (.st fs) else none
    | _ => none
  | _ => none

def elemC (P : Program) (t : TypeId) : Option AV :=
  match P.info? t with
  | some i => match i.zero with
    | some z => constC P t z
    | none => none
  | none => none

def partsP (P : Program) (fs : Array Field) : List (Nat × Operand) → Option (List (Nat × Nat × DOpd))
  | [] => some []
  | (i, x) :: r => match fs[i]? with
    | some f => match sizeP P f.type, opdP P f.type x, partsP P fs r with
      | some s, some x, some r => some ((f.offset, s, x) :: r)
      | _, _, _ => none
    | none => none

def partsA (P : Program) (e : TypeId) (s : Nat) : List (Nat × Operand) → Option (List (Nat × Nat × DOpd))
  | [] => some []
  | (i, x) :: r => match opdP P e x, partsA P e s r with
    | some x, some r => some ((i * s, s, x) :: r)
    | _, _ => none

def partsS (P : Program) (e : TypeId) : List (Nat × Operand) → Option (List (Nat × DOpd))
  | [] => some []
  | (i, x) :: r => match opdP P e x, partsS P e r with
    | some x, some r => some ((i, x) :: r)
    | _, _ => none

def opdO (P : Program) (t : TypeId) : Option Operand → Option (Option DOpd)
  | none => some none
  | some x => (opdP P t x).map some

/-- 'int' among the program's types: any slot or constant of an integer kind reads the same -/
def extP (P : Program) (f : FuncId) : Option (Option ExtK) :=
  match P.funcs[f]? with
  | some fn => if fn.name == "runtime.NumGoroutine" then none else
    if fn.body.isSome then some none else if fn.origin == "" then
    if fn.name == "internal/bytealg.IndexByteString" then some (some .indexByte) else
    if fn.name == "internal/bytealg.abigen_runtime_cmpstring" then some (some .compare) else
    if fn.name == "internal/abi.NoEscape" then some (some .noEscape) else none else none
  | none => none

def callP (P : Program) (c : Call) (type : TypeId) : Option DOp :=
  match c.callee with
  | .value (.func f) => match extP P f, opdsP P c.argTypes.toList c.args.toList with
    | some none, some xs => some (.call f xs)
    | some (some e), some xs => some (.xtn e xs)
    | _, _ => none
  | .value x => match opdsP P c.argTypes.toList c.args.toList with
    | some xs => (opdP P type x).bind fun x => some (.callv x xs)
    | none => none
  | .invoke _ _ => none
  | .builtin b => match b, c.argTypes.toList, c.args.toList with
    | .len, [t], [x] => match P.underlying t with
      | some .string => (opdP P t x).map .lenS
      | some (.slice _) => (opdP P t x).map .len
      | some (.map _ _) => (opdP P t x).map .lenM
      | some (.array n _) => some (.lenC n)
      | _ => none
    | .append, [t, u], [x, y] => match P.underlying t, P.underlying u with
      | some (.slice e), some (.slice _) | some (.slice e), some .string => match isAggP P e, P.info? e, opdP P t x, opdP P u y, elemC P e with
        | some a, some i, some x, some y, some z => if z.cells.length = i.size then some (.app a e i.size i.bytes x y) else none
        | _, _, _, _, _ => none
      | _, _ => none
    | .unsafeSliceData, [t], [x] => match P.underlying t with
      | some (.slice e) => match P.underlying e with
        | some (.int .u8) => (opdP P t x).map .usd
        | _ => none
      | _ => none
    | .unsafeString, [t, u], [x, n] => match P.underlying t with
      | some (.pointer e) => match sizeP P e, opdP P t x, opdP P u n with
        | some 1, some x, some n => some (.ustr e x n)
        | _, _, _ => none
      | _ => none
    | .max, ts, xs => (opdsP P ts xs).map .mx
    | .min, ts, xs => (opdsP P ts xs).map .mn
    | _, _, _ => none

/-- the types in whose variables a variable of type 'u' stands at the beginning -/
def okP (P : Program) (u : TypeId) : List (TypeId × Nat × Nat) :=
  (List.range P.types.size).flatMap fun t => match sizeP P t with
    | some s => if Nat.ble s 64 then (List.range (min s 9)).filterMap fun off => if liesAt P P.depth t 1 off u 1 then some (t, off, s) else none else []
    | none => []

def convP (P : Program) (s d : TypeId) (x : Operand) : Option DOp :=
  match P.underlying s, P.underlying d with
  | some (.int _), some (.int k) => (opdP P s x).map (.cvI k)
  | some .string, some .string => (opdP P s x).map .cvId
  | some (.int _), some .string => (opdP P s x).map .cvRS
  | some (.slice e), some .string => match P.underlying e with
    | some (.int .u8) => (opdP P s x).map .cvBS
    | _ => none
  | some .string, some (.slice e) => match P.underlying e with
    | some (.int .u8) => if sizeP P e = some 1 then (opdP P s x).map (.cvSB e) else none
    | _ => none
  | some (.pointer t), some .unsafePointer => match sizeP P t with
    | some (_ + 1) => (opdP P s x).map .cvU
    | _ => none
  | some .unsafePointer, some (.pointer u) => match sizeP P u with
    | some (_ + 1) => (opdP P s x).map (.cvP (okP P u))
    | _ => none
  | _, _ => none

def prepO (P : Program) (locs : List Nat) (tk : Bool) (o : Oper) : Option DOp :=
  let isL := match o.dst with
    | some d => locs.any (Nat.beq d)
    | none => false
  match o.op with
  | .move x | .assign x => (opdP P o.type x).map .mv
  | .pick c a b => match opdP P o.type c, opdP P o.type a, opdP P o.type b with
    | some c, some a, some b => some (.pick c a b)
    | _, _, _ => none
  | .alloc e => (zeroC P e).map fun z => if isL then .alL z else .alH e z
  | .box e x => (opdP P e x).map fun x => if isL then .bxL x else .bxH e x
  | .build t ps => match zeroC P t, P.underlying t with
    | some z, some (.struct fs) => if fs.toList.all (fun (f : Field) => (sizeP P f.type).isSome) then (partsP P fs ps.toList).map (.bld z) else none
    | some z, some (.array _ e) => match sizeP P e with
      | some s => (partsA P e s ps.toList).map (.bld z)
      | none => none
    | _, _ => none
  | .buildSlice t n ps => match P.underlying t with
    | some (.slice e) => match sizeP P e, elemC P e, partsS P e ps.toList with
      | some s, some z, some ps => if 0 < s ∧ n * s ≤ 16777216 ∧ z.cells.length = s then some (if tk then .bldT e s n z ps else .bldS s n z ps) else none
      | _, _, _ => none
    | _ => none
  | .load t a => match isAggP P t, sizeP P t, opdP P 0 a with
    | some g, some s, some a => if g = true ∨ s = 1 then some (.ld g s a) else none
    | _, _, _ => none
  | .store t a x => match sizeP P t, opdP P 0 a, opdP P t x with
    | some s, some a, some x => some (.st s a x)
    | _, _, _ => none
  | .nilCheck x => (opdP P 0 x).map .nilc
  | .binOp op t x y u => match opdP P t x, opdP P u y with
    | some a, some b => match op with
      | .eql | .neq => some (.bin op (eqkO P t x y) a b)
      | _ => some (.bin op none a b)
    | _, _ => none
  | .unOp op t x => (opdP P t x).map (.un op)
  | .convert s d x => convP P s d x
  | .makeInterface t x => match P.underlying t with
    | some (.interface _) => none
    | some _ => (opdP P t x).map (.mki t)
    | none => none
  | .makeFunc (.func f) fs cs => match opdsP P (List.replicate fs.size 0) fs.toList, opdsP P (List.replicate cs.size 0) cs.toList with
    | some fs, some cs => some (.mkf f fs cs)
    | _, _ => none
  | .makeMap t none => match P.underlying t with
    | some (.map _ _) => some .mkm
    | _ => none
  | .makeSlice t l c => match P.underlying t with
    | some (.slice e) => match P.info? e, elemC P e, opdP P 0 l, opdP P 0 c with
      | some i, some z, some l, some c => if 0 < i.size then some (if tk then .mks e i.size i.bytes z l c else .mksS i.size i.bytes z l c) else none
      | _, _, _, _ => none
    | _ => none
  | .slice t x lo hi mx => match P.underlying t with
    | some .string => match opdP P t x, opdO P 0 lo, opdO P 0 hi, mx with
      | some x, some lo, some hi, none => some (.slS x lo hi)
      | _, _, _, _ => none
    | some (.slice e) => match sizeP P e, opdP P t x, opdO P 0 lo, opdO P 0 hi, opdO P 0 mx with
      | some s, some x, some lo, some hi, some mx => if mx.isSome && hi.isNone then none else some (.slA s x lo hi mx)
      | _, _, _, _, _ => none
    | some (.array n e) => match sizeP P e, opdP P t x, opdO P 0 lo, opdO P 0 hi, mx with
      | some s, some x, some lo, some hi, none => some (.slP s n x lo hi)
      | _, _, _, _, _ => none
    | _ => none
  | .fieldAddr t x f => match P.underlying t with
    | some (.struct fs) => match fs[f]? with
      | some fd => match sizeP P fd.type, opdP P 0 x with
        | some (_ + 1), some x => some (.fa fd.offset x)
        | _, _ => none
      | none => none
    | _ => none
  | .field t x f => match P.underlying t with
    | some (.struct fs) => match fs[f]? with
      | some fd => match isAggP P fd.type, sizeP P fd.type, opdP P t x with
        | some g, some s, some x => if g = true ∨ s = 1 then some (.fd g fd.offset s x) else none
        | _, _, _ => none
      | none => none
    | _ => none
  | .indexAddr t x i => match P.underlying t with
    | some (.slice e) => match sizeP P e, opdP P t x, opdP P 0 i with
      | some s, some x, some i => if 0 < s then some (.ia s x i) else none
      | _, _, _ => none
    | some (.array n e) => match sizeP P e, opdP P t x, opdP P 0 i with
      | some s, some x, some i => some (.iaA s n x i)
      | _, _, _ => none
    | _ => none
  | .index t x i => match P.underlying t with
    | some .string => match opdP P t x, opdP P 0 i with
      | some x, some i => some (.ixS x i)
      | _, _ => none
    | some (.array n e) => match isAggP P e, sizeP P e, opdP P t x, opdP P 0 i with
      | some g, some s, some x, some i => if g = true ∨ s = 1 then some (.ixA g s n x i) else none
      | _, _, _, _ => none
    | _ => none
  | .lookup t m k ok => match P.underlying t with
    | some (.map kt e) => match keyK P kt, elemC P e, opdP P t m, opdP P kt k with
      | some q, some z, some m, some k => some (.lkp q z m k ok)
      | _, _, _, _ => none
    | _ => none
  | .mapUpdate t m k x | .insert t m k x => match P.underlying t with
    | some (.map kt e) => match keyK P kt, opdP P t m, opdP P kt k, opdP P e x with
      | some q, some m, some k, some x => some (.mup q m k x)
      | _, _, _, _ => none
    | _ => none
  | .mapEntry t m k => match P.underlying t with
    | some (.map kt e) => match keyK P kt, elemC P e, opdP P t m, opdP P kt k with
      | some q, some z, some m, some k => some (.mpe q z m k)
      | _, _, _, _ => none
    | _ => none
  | .entryStore t m s x => match P.underlying t with
    | some (.map _ e) => match opdP P t m, opdP P 0 s, opdP P e x with
      | some m, some s, some x => some (.ens m s x)
      | _, _, _ => none
    | _ => none
  | .typeAssert x t a ok => match P.underlying a with
    | some (.interface _) => none
    | some _ => match elemC P a, opdP P t x with
      | some z, some x => some (.tas ok a z x)
      | _, _ => none
    | none => none
  | .extract x i => (opdP P 0 x).map fun x => .ext x i
  | .call c => callP P c o.type
  | .panic x => (opdP P 0 x).map .pnc
  | _ => none

/-- the slots of a frame: how many, and which stay as they are -/
structure Lim where
  n : Nat
  pin : List Nat

def Lim.ok (N : Lim) (d : Nat) : Prop := d < N.n ∧ ∀ t ∈ N.pin, t ≠ d

def dstOK (N : Lim) : Option Nat → Bool
  | some d => Nat.blt d N.n && N.pin.all fun t => !Nat.beq t d
  | none => true

def prepI (P : Program) (N : Lim) (locs : List Nat) (tk : Bool) (ops : Array Oper) (o : Oper) : Option DI :=
  if dstOK N o.dst = false then none else
  match prepO P locs tk o with
  | some op => match o.guard with
    | none => some ⟨o.dst, op, none⟩
    | some (j, want) => match (ops[j]?).bind (·.dst) with
      | some d => some ⟨o.dst, op, some (d, want)⟩
      | none => none
  | none => none

def prepIs (P : Program) (N : Lim) (locs : List Nat) (tk : Bool) (ops : Array Oper) : List Oper → Option (List DI)
  | [] => some []
  | o :: r => match prepI P N locs tk ops o, prepIs P N locs tk ops r with
    | some a, some b => some (a :: b)
    | _, _ => none

/-! ### regions that draw their order -/

def slotO : DOpd → List Nat
  | .t n => [n]
  | _ => []
def slotOO : Option DOpd → List Nat
  | some x => slotO x
  | none => []

def readsO : DOp → List Nat
  | .mv x | .bxL x | .bxH _ x | .ld _ _ x | .nilc x | .un _ x | .cvI _ x | .cvId x | .cvRS x | .cvBS x | .cvSB _ x | .cvU x | .cvP _ x | .usd x | .mki _ x | .fa _ x | .fd _ _ _ x | .ext x _ | .len x | .lenS x | .lenM x | .tas _ _ _ x | .pnc x => slotO x
  | .pick a b c | .mup _ a b c | .ens a b c => slotO a ++ slotO b ++ slotO c
  | .alL _ | .alH _ _ | .mkm | .lenC _ => []
  | .bld _ ps => ps.flatMap fun p => slotO p.2.2
  | .bldS _ _ _ ps | .bldT _ _ _ _ ps => ps.flatMap fun p => slotO p.2
  | .st _ a x | .bin _ _ a x | .mks _ _ _ _ a x | .mksS _ _ _ a x | .ia _ a x | .iaA _ _ a x | .ixS a x | .ixA _ _ _ a x | .lkp _ _ a x _ | .mpe _ _ a x | .app _ _ _ _ a x | .ustr _ a x | .cpy _ a x => slotO a ++ slotO x
  | .mkf _ fs cs => fs.flatMap slotO ++ cs.flatMap slotO
  | .slS x lo hi | .slP _ _ x lo hi => slotO x ++ slotOO lo ++ slotOO hi
  | .slA _ x lo hi mx => slotO x ++ slotOO lo ++ slotOO hi ++ slotOO mx
  | .mx xs | .mn xs | .xtn _ xs | .call _ xs => xs.flatMap slotO
  | .callv x xs | .inv x _ xs => slotO x ++ xs.flatMap slotO

inductive Eff where
  | pure | reads | acts
  deriving DecidableEq

def effO (l : Option Nat) : DOp → Eff
  | .ld _ _ (.g _) => .pure
  | .ld .. => if l.isSome then .pure else .reads
  | .st .. => if l.isSome then .pure else .acts
  | .cvBS _ | .cvU _ | .cvP .. | .lkp .. | .lenM _ => .reads
  | .bldT .. | .alH .. | .bxH .. | .cvSB .. | .ustr .. | .mkm | .mks .. | .slP .. | .mup .. | .mpe .. | .ens .. | .app .. | .cpy .. | .call .. | .callv .. | .inv .. | .pnc _ => .acts
  | _ => .pure

def readsI (i : DI × Option Nat) : List Nat :=
  readsO i.1.op ++ (match i.1.guard with | some (g, _) => [g] | none => []) ++ i.2.toList

def writesI (i : DI × Option Nat) : List Nat :=
  i.1.dst.toList ++ (match i.1.op with | .st .. => i.2.toList | _ => [])

def meets (a b : List Nat) : Bool := a.any fun x => b.any (Nat.beq x)

def clashW (i j : DI × Option Nat) : Bool :=
  meets (writesI i) (readsI j) || (meets (readsI i) (writesI j) || meets (writesI i) (writesI j))

def clashE (i j : DI × Option Nat) : Bool :=
  match effO i.2 i.1.op, effO j.2 j.1.op with
  | .acts, _ | .reads, .acts => true
  | _, _ => false

/-- may the two, the one ahead of the other, not be exchanged? -/
def clash (i j : DI × Option Nat) : Bool := clashW i j || clashE i j

def isReads : Eff → Bool
  | .reads => true
  | _ => false

def isActs : Eff → Bool
  | .acts => true
  | _ => false

/-- may they, if what the first one reads stays? -/
def softC (i j : DI × Option Nat) : Bool := !clashW i j && (isReads (effO i.2 i.1.op) && isActs (effO j.2 j.1.op))

def bindOn (o : Oper) : List Nat := (o.after.toList.filter (Region.binds .any)).map (·.on)

/-- the ancestors, row by row; none: an edge leads forward -/
def ancs : Nat → List Oper → List (List Nat) → Option (List (List Nat))
  | _, [], acc => some acc
  | i, o :: r, acc =>
    let d := bindOn o
    if d.all fun j => Nat.blt j i then
      ancs (i + 1) r (acc ++ [(List.range i).filter fun j => d.any fun k => Nat.beq k j || (acc.getD k []).any (Nat.beq j)]) else none

/-- an order in which what acts comes as late as it may -/
def canonO (acts : List Bool) (anc : List (List Nat)) : Nat → List Nat → List Nat → List Nat
  | 0, _, acc => acc.reverse
  | k + 1, rem, acc =>
    let rdy := rem.filter fun i => (anc.getD i []).all fun j => acc.any (Nat.beq j)
    match rdy.find? fun i => !acts.getD i true with
    | some i => canonO acts anc k (rem.filter fun j => !Nat.beq j i) (i :: acc)
    | none => match rdy with
      | i :: _ => canonO acts anc k (rem.filter fun j => !Nat.beq j i) (i :: acc)
      | [] => acc.reverse

def pickRows (l : List (DI × Option Nat)) : List Nat → Option (List (Nat × DI × Option Nat))
  | [] => some []
  | i :: r => match l[i]?, pickRows l r with
    | some x, some xs => some ((i, x) :: xs)
    | _, _ => none

def softP (anc : List (List Nat)) (z y : Nat × DI × Option Nat) : Bool := !(anc.getD y.1 []).any (Nat.beq z.1) && (!(anc.getD z.1 []).any (Nat.beq y.1) && softC z.2 y.2)

def isSoft (anc : List (List Nat)) (rows : List (Nat × DI × Option Nat)) (z : Nat × DI × Option Nat) : Bool := rows.any (softP anc z)

def chkOf (anc : List (List Nat)) (rows : List (Nat × DI × Option Nat)) (y : Nat × DI × Option Nat) : List (DI × Option Nat) := (rows.filter fun z => softP anc z y).map (·.2)

def pairsOK (anc : List (List Nat)) (all : List (Nat × DI × Option Nat)) : List (Nat × DI × Option Nat) → Bool
  | [] => true
  | x :: r => (r.all fun y => !Nat.beq x.1 y.1 && (((anc.getD y.1 []).any (Nat.beq x.1) || (!clash x.2 y.2 || softP anc x y)) && (!isSoft anc all x || !meets (writesI y.2) (readsI x.2 ++ writesI x.2)))) &&
      ((!isSoft anc all x || !meets (writesI x.2) (readsI x.2)) && pairsOK anc all r)

def drwOK (n : Nat) (anc : List (List Nat)) (rows : List (Nat × DI × Option Nat)) : Bool :=
  Nat.ble rows.length n && (pairsOK anc rows rows && (List.range n).all (fun i => rows.any fun p => Nat.beq p.1 i))

def canonRows (l : List (DI × Option Nat)) (anc : List (List Nat)) : Option (List (Nat × DI × Option Nat)) :=
  match pickRows l (canonO (l.map fun x => isActs (effO x.2 x.1.op)) anc l.length (List.range l.length) []) with
  | some rows => if drwOK l.length anc rows then some rows else none
  | none => none

def zipL : List DI → List (Option Nat) → List (DI × Option Nat)
  | [], _ => []
  | i :: r, [] => (i, none) :: zipL r []
  | i :: r, l :: ls => (i, l) :: zipL r ls

structure Note where
  locs : List Nat
  keep : List (Nat × List Nat)
  lcl : List (Nat × List (Option Nat))

/-- a choice that Go leaves open: a variable that is set to true and to false, in either order -/
def ndetP (ops : Array Oper) : Bool :=
  match ops.toList with
  | [a, b, c, d] => match b.op, c.op with
    | .store _ (.tmp _) (.const (.bool true)), .store _ (.tmp _) (.const (.bool false)) =>
      (bindOn a).isEmpty && (bindOn b).all (Nat.beq 0) && !(bindOn b).isEmpty && (bindOn c).all (Nat.beq 0) && !(bindOn c).isEmpty && (bindOn d).any (Nat.beq 1) && (bindOn d).any (Nat.beq 2) && (bindOn d).all fun j => Nat.ble j 2
    | _, _ => false
  | _ => false

def prepC (P : Program) (N : Lim) (n : Note) : Code → Option DC
  | .skip => some .skip
  | .region id ops false => match prepIs P N n.locs true ops ops.toList with
    | some is => some (.reg is ((lk n.keep id).getD []))
    | none => some .fail
  | .region id ops true => if ndetP ops then (match prepIs P N n.locs true ops ops.toList with
      | some is => some (.ndet is ((lk n.keep id).getD []))
      | none => some .fail) else match prepIs P N n.locs false ops ops.toList, ancs 0 ops.toList [] with
    | some is, some anc =>
      match canonRows (zipL is ((lk n.lcl id).getD [])) anc with
      | some rows => some (.drw (rows.map fun p => (p.2, chkOf anc rows p)) ((lk n.keep id).getD []))
      | none => some .fail
    | _, _ => some .fail
  | .seq a b => match prepC P N n a, prepC P N n b with
    | some a, some b => some (.seq a b)
    | _, _ => none
  | .cond c a b => match opdP P 0 c, prepC P N n a, prepC P N n b with
    | some c, some a, some b => some (.cnd c a b)
    | _, _, _ => none
  | .block id (.loop c) => (prepC P N n c).map fun d => .blk id (.seq (.trim ((lk n.keep (1000000 + id)).getD [])) (.lop (.seq d (.trim ((lk n.keep (1000000 + id)).getD [])))))
  | .block id c => (prepC P N n c).map (.blk id)
  | .loop c => (prepC P N n c).map .lop
  | .exit id => some (.exit id)
  | .ret => some .ret
  | _ => some .fail

def resP (P : Program) : List ResultVar → Option (List DR)
  | [] => some []
  | .tmp t :: r => (resP P r).map (.tmp t :: ·)
  | .cell a t :: r => match isAggP P t, sizeP P t, resP P r with
    | some g, some s, some r => if g = true ∨ s = 1 then some (.cell a g s :: r) else none
    | _, _, _ => none

def prepF (P : Program) (n : Note) (fn : Func) : Option DF :=
  match fn.body with
  | some c => match prepC P ⟨fn.ntmps, []⟩ n c, resP P fn.results.toList with
    | some d, some r => if fn.params.size + fn.nfree ≤ fn.ntmps then some ⟨fn.params.size + fn.nfree, d, r⟩ else none
    | _, _ => none
  | none => none

end Go.Dn
