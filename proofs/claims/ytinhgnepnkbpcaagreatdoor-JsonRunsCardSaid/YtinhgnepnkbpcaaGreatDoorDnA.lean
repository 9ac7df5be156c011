/- An abstract interpreter for the loaded code: values, store, code, one step. -/
import Derived.Calls
import Derived.LoopN
import Derived.Orders
import Derived.KernelRfl
import GoSem.Extern.BytealgIndexByte
import GoSem.Extern.BytealgCompare
set_option linter.unusedSimpArgs false
set_option linter.unusedVariables false
namespace Go.Dn
open Go

/-- What is known of a slice beside its elements: its lineage (none: never written, never grown in place), where it begins in it, its capacity if known. -/
structure SI where
  tok : Option (Nat × Nat)
  off : Nat
  cap : Option Nat
  isNil : Bool
  deriving DecidableEq

inductive AV where
  | undef
  | bool (b : Bool)
  | int (k : IntKind) (n : Int)
  | str (s : List UInt8)
  | nilp
  | ptr (id off : Nat)
  | gptr (g off : Nat)
  | anyp
  | eptr (es : Nat) (o : SI) (xs : List AV) (i off : Nat)
  | sl (es : Nat) (o : SI) (xs : List AV)
  | fn (f : FuncId) (fs cs : List AV)
  | nilfn
  | ifc (t : TypeId) (v : AV)
  | nilif
  | agg (cs : List AV)
  | tup (vs : List AV)
  | nilmap
  | map (id : Nat)
  | raw (v : Value)

def AV.cells : AV → List AV
  | .agg cs => cs
  | v => [v]

inductive Ent where
  | val (a : AV)
  | box (cs : List AV)
  | adr (t off : Nat)
  | unk

abbrev Env := List (Nat × Ent)

def lk {α : Type} : List (Nat × α) → Nat → Option α
  | [], _ => none
  | (k, v) :: r, n => bif Nat.beq k n then some v else lk r n

inductive Mv where
  | bx (id off : Nat)

/-- The abstract store: heap variables, lineages (tip: the end that may grow in place; mv: read through a variable; dl: lines that are no longer read), maps. -/
structure St where
  nb : Nat
  boxes : List (Nat × Option (TypeId × List AV))
  nt : Nat
  tip : List (Nat × Option (Nat × TypeId × Bool))
  mv : List (Nat × Mv)
  dl : List (Nat × Unit)
  nm : Nat
  maps : List (Nat × List (AV × AV))

def St.init : St := ⟨0, [], 0, [], [], [], 0, []⟩

inductive DOpd where
  | t (n : Nat)
  | c (v : AV)
  | g (n : Nat)
  | f (n : Nat)

inductive EqK where
  | bool | int | str | ptr | sl | ifc | fn | map
  | st (fs : List (Nat × EqK))

inductive ExtK where
  | indexByte | compare | noEscape

inductive DOp where
  | mv (x : DOpd)
  | pick (c a b : DOpd)
  | alL (z : List AV)
  | alH (ty : TypeId) (z : List AV)
  | bxL (x : DOpd)
  | bxH (ty : TypeId) (x : DOpd)
  | bld (z : List AV) (ps : List (Nat × Nat × DOpd))
  | bldS (es n : Nat) (z : AV) (ps : List (Nat × DOpd))
  | bldT (ty : TypeId) (es n : Nat) (z : AV) (ps : List (Nat × DOpd))
  | ld (agg : Bool) (sz : Nat) (a : DOpd)
  | st (sz : Nat) (a x : DOpd)
  | nilc (x : DOpd)
  | bin (op : BinOp) (ek : Option EqK) (x y : DOpd)
  | un (op : UnOp) (x : DOpd)
  | cvI (k : IntKind) (x : DOpd)
  | cvId (x : DOpd)
  | cvBS (x : DOpd)
  | cvSB (ty : TypeId) (x : DOpd)
  | cvU (x : DOpd)
  | cvP (ok : List (TypeId × Nat × Nat)) (x : DOpd)
  | mki (t : TypeId) (x : DOpd)
  | mkf (f : FuncId) (fs cs : List DOpd)
  | mkm
  | mks (ty : TypeId) (es : Nat) (bytes : Nat) (z : AV) (l c : DOpd)
  | mksS (es : Nat) (bytes : Nat) (z : AV) (l c : DOpd)
  | cvRS (x : DOpd)
  | slS (x : DOpd) (lo hi : Option DOpd)
  | slA (es : Nat) (x : DOpd) (lo hi mx : Option DOpd)
  | slP (es n : Nat) (x : DOpd) (lo hi : Option DOpd)
  | fa (off : Nat) (x : DOpd)
  | fd (agg : Bool) (off sz : Nat) (x : DOpd)
  | ia (es : Nat) (x i : DOpd)
  | iaA (es n : Nat) (x i : DOpd)
  | ixS (x i : DOpd)
  | ixA (agg : Bool) (es n : Nat) (x i : DOpd)
  | lkp (ek : EqK) (z : AV) (m k : DOpd) (ok : Bool)
  | mup (ek : EqK) (m k x : DOpd)
  | mpe (ek : EqK) (z : AV) (m k : DOpd)
  | ens (m s x : DOpd)
  | ext (x : DOpd) (i : Nat)
  | len (x : DOpd)
  | lenS (x : DOpd)
  | lenM (x : DOpd)
  | lenC (n : Nat)
  | app (agg : Bool) (ty : TypeId) (es bytes : Nat) (x y : DOpd)
  | usd (x : DOpd)
  | ustr (ty : TypeId) (x n : DOpd)
  | cpy (es : Nat) (x y : DOpd)
  | mx (xs : List DOpd)
  | mn (xs : List DOpd)
  | tas (ok : Bool) (t : TypeId) (z : AV) (x : DOpd)
  | xtn (e : ExtK) (xs : List DOpd)
  | call (f : FuncId) (xs : List DOpd)
  | callv (x : DOpd) (xs : List DOpd)
  | inv (x : DOpd) (tab : List (TypeId × FuncId)) (xs : List DOpd)
  | pnc (x : DOpd)

structure DI where
  dst : Option Nat
  op : DOp
  guard : Option (Nat × Bool)

inductive DC where
  | skip
  | reg (is : List DI) (keep : List Nat)
  | drw (is : List ((DI × Option Nat) × List (DI × Option Nat))) (keep : List Nat)
  | trim (keep : List Nat)
  | fail
  | ndet (is : List DI) (keep : List Nat)
  | seq (a b : DC)
  | cnd (x : DOpd) (a b : DC)
  | blk (id : Nat) (c : DC)
  | lop (c : DC)
  | exit (id : Nat)
  | ret

inductive DR where
  | tmp (t : Nat)
  | cell (t : Nat) (agg : Bool) (sz : Nat)

structure DF where
  np : Nat
  body : DC
  res : List DR

/-! ## arithmetic -/

def inR (k : IntKind) (n : Int) : Bool :=
  match k, n with
  | .i64, .ofNat m => Nat.ble m 9223372036854775807
  | .i64, .negSucc m => Nat.ble m 9223372036854775807
  | .u64, .ofNat m => Nat.ble m 18446744073709551615
  | .u8, .ofNat m => Nat.ble m 255
  | .i32, .ofNat m => Nat.ble m 2147483647
  | .i32, .negSucc m => Nat.ble m 2147483647
  | .u32, .ofNat m => Nat.ble m 4294967295
  | _, _ => false

def wr (k : IntKind) (n : Int) : Int := bif inR k n then n else k.wrap n

theorem inR_wrap {k : IntKind} {n : Int} (h : inR k n = true) : k.wrap n = n := by
  have p64 : (2 : Int) ^ 64 = 18446744073709551616 := by decide
  have p63 : (2 : Int) ^ 63 = 9223372036854775808 := by decide
  have p32 : (2 : Int) ^ 32 = 4294967296 := by decide
  have p31 : (2 : Int) ^ 31 = 2147483648 := by decide
  have p8 : (2 : Int) ^ 8 = 256 := by decide
  unfold inR at h
  unfold IntKind.wrap
  split at h
  all_goals try (have h' := Nat.le_of_ble_eq_true h)
  all_goals try simp only [IntKind.bits, IntKind.signed, Nat.reduceSub, p64, p63, p32, p31, p8, Bool.true_and, Bool.false_and, decide_eq_true_eq, Bool.false_eq_true, if_false, Int.ofNat_eq_natCast, Int.negSucc_eq]
  all_goals try split
  all_goals first | omega | (cases h)

theorem wr_eq (k : IntKind) (n : Int) : wr k n = k.wrap n := by
  unfold wr
  cases h : inR k n
  · rfl
  · simp [inR_wrap h]

/-! ## operands -/

def opd (env : Env) : DOpd → Option AV
  | .t n => match lk env n with
    | some (.val v) => some v
    | _ => none
  | .c v => some v
  | .g n => some (.gptr n 0)
  | .f n => some (.fn n [] [])

def opds (env : Env) : List DOpd → Option (List AV)
  | [] => some []
  | x :: xs => match opd env x, opds env xs with
    | some v, some vs => some (v :: vs)
    | _, _ => none

inductive Loc where
  | lc (t off : Nat)
  | hp (id off : Nat)
  | gl (g off : Nat)
  | el (es : Nat) (o : SI) (xs : List AV) (i off : Nat)

def locV : AV → Option Loc
  | .ptr id off => some (.hp id off)
  | .gptr g off => some (.gl g off)
  | .eptr es o xs i off => some (.el es o xs i off)
  | _ => none

def loc (env : Env) : DOpd → Option Loc
  | .t n => match lk env n with
    | some (.box _) => some (.lc n 0)
    | some (.adr t off) => some (.lc t off)
    | some (.val v) => locV v
    | _ => none
  | .g n => some (.gl n 0)
  | _ => none

def cut (cs : List AV) (off sz : Nat) : Option (List AV) :=
  bif Nat.ble (off + sz) cs.length then some ((cs.drop off).take sz) else none

def notAgg : AV → Bool
  | .agg _ => false
  | _ => true

def mkv (agg : Bool) (cs : List AV) : Option AV :=
  bif agg then some (.agg cs) else match cs with
    | [c] => bif notAgg c then some c else none
    | _ => none

/-- the list with a piece replaced -/
def splice (cs : List AV) (off : Nat) (new : List AV) : List AV := cs.take off ++ new ++ cs.drop (off + new.length)

/-- how a slice's elements are read: by the value that it carries, or through a variable -/
inductive Rd where
  | here
  | box (id off : Nat)
  | no

def rd (S : St) (o : SI) : Rd :=
  match o.tok with
  | none => .here
  | some (t, l) => match lk S.mv t with
    | some (.bx b boff) => .box b boff
    | none => match lk S.dl l with
      | none => .here
      | some _ => .no

def elCells (S : St) (es : Nat) (o : SI) (xs : List AV) (i : Nat) : Option (List AV) :=
  match rd S o with
  | .here => (xs[i]?).map AV.cells
  | .box b boff => match lk S.boxes b with
    | some (some (_, cs)) => cut cs (boff + (o.off + i) * es) es
    | _ => none
  | .no => none

def cutAll (agg : Bool) (es : Nat) (cs : List AV) (start : Nat) : Nat → Option (List AV)
  | 0 => some []
  | n + 1 => match (cut cs start es).bind (mkv agg), cutAll agg es cs (start + es) n with
    | some x, some r => some (x :: r)
    | _, _ => none

def elems (S : St) (agg : Bool) (es : Nat) (o : SI) (xs : List AV) : Option (List AV) :=
  match rd S o with
  | .here => some xs
  | .box b boff => match lk S.boxes b with
    | some (some (_, cs)) => cutAll agg es cs (boff + o.off * es) xs.length
    | _ => none
  | .no => none

abbrev GT := List (Nat × List AV)

def ldC (gt : GT) (env : Env) (S : St) (sz : Nat) : Loc → Option (List AV)
  | .lc t off => match lk env t with
    | some (.box cs) => cut cs off sz
    | _ => none
  | .hp id off => match lk S.boxes id with
    | some (some (_, cs)) => cut cs off sz
    | _ => none
  | .gl g off => match lk gt g with
    | some cs => cut cs off sz
    | none => none
  | .el es o xs i off => match elCells S es o xs i with
    | some cs => cut cs off sz
    | none => none

def ldL (gt : GT) (env : Env) (S : St) (agg : Bool) (sz : Nat) (l : Loc) : Option AV :=
  match ldC gt env S sz l with
  | some cs => mkv agg cs
  | none => none

/-- can such a value stand in one cell? -/
def ok1 : AV → Bool
  | .undef | .agg _ | .tup _ => false
  | _ => true

def stL (env : Env) (S : St) (new : List AV) : Loc → Option (Env × St)
  | .lc t off => match lk env t with
    | some (.box cs) => bif Nat.ble (off + new.length) cs.length then some ((t, .box (splice cs off new)) :: env, S) else none
    | _ => none
  | .hp id off => match lk S.boxes id with
    | some (some (ty, cs)) => bif Nat.ble (off + new.length) cs.length then some (env, { S with boxes := (id, some (ty, splice cs off new)) :: S.boxes }) else none
    | _ => none
  | .gl _ _ => none
  | .el es o xs i off => match rd S o with
    | .box b boff => match lk S.boxes b with
      | some (some (ty, cs)) => bif Nat.ble (off + new.length) es && (Nat.blt i xs.length && Nat.ble (boff + (o.off + i) * es + off + new.length) cs.length) then
          some (env, { S with boxes := (b, some (ty, splice cs (boff + (o.off + i) * es + off) new)) :: S.boxes }) else none
      | _ => none
    | .here => match o.tok with
      | some (t, l) => match lk S.tip t with
        | some (some (n, ty, _)) => bif Nat.beq o.off 0 && (Nat.beq xs.length n && (Nat.blt i n && Nat.ble (off + new.length) es)) then
            some (env, { S with nb := S.nb + 1, boxes := (S.nb, some (ty, splice (xs.flatMap AV.cells) (i * es + off) new)) :: (S.nb, some (ty, xs.flatMap AV.cells)) :: S.boxes,
                                mv := (t, .bx S.nb 0) :: S.mv, dl := (l, ()) :: S.dl, tip := (t, none) :: S.tip }) else none
        | _ => none
      | none => none
    | .no => none

def addL (n : Nat) : Loc → Ent
  | .lc t off => .adr t (off + n)
  | .hp id off => .val (.ptr id (off + n))
  | .gl g off => .val (.gptr g (off + n))
  | .el es o xs i off => .val (.eptr es o xs i (off + n))

def kill (s : Nat) : Env → Env
  | [] => []
  | (k, .adr t o) :: r => (bif Nat.beq t s then (k, .unk) else (k, .adr t o)) :: kill s r
  | e :: r => e :: kill s r

/-! ## strings -/

def beqB : List UInt8 → List UInt8 → Bool
  | [], [] => true
  | a :: x, b :: y => bif Nat.beq a.toNat b.toNat then beqB x y else false
  | _, _ => false

def ltB : List UInt8 → List UInt8 → Bool
  | _, [] => false
  | [], _ :: _ => true
  | a :: x, b :: y => bif Nat.blt a.toNat b.toNat then true else bif Nat.beq a.toNat b.toNat then ltB x y else false

def cmpB : List UInt8 → List UInt8 → Int
  | [], [] => 0
  | [], _ :: _ => -1
  | _ :: _, [] => 1
  | a :: x, b :: y => bif Nat.beq a.toNat b.toNat then cmpB x y else bif Nat.blt a.toNat b.toNat then -1 else 1

def idxB (c : UInt8) : List UInt8 → Nat → Int
  | [], _ => -1
  | a :: x, i => bif Nat.beq a.toNat c.toNat then (i : Int) else idxB c x (i + 1)

def nat? : AV → Option Nat
  | .int _ (.ofNat n) => some n
  | _ => none

def int? : AV → Option Int
  | .int _ n => some n
  | _ => none

def bytes? : List AV → Option (List UInt8)
  | [] => some []
  | .int .u8 n :: r => (bytes? r).map (UInt8.ofNat n.toNat :: ·)
  | _ => none

def ofBytes (s : List UInt8) : List AV := s.map fun b => .int .u8 b.toNat

/-! ## equality -/

def eqBool : AV → AV → Option Bool
  | .bool a, .bool b => some (a == b)
  | _, _ => none
def eqInt : AV → AV → Option Bool
  | .int k a, .int k' b => if k = k' then some (a == b) else none
  | _, _ => none
def eqStr : AV → AV → Option Bool
  | .str a, .str b => some (beqB a b)
  | _, _ => none
def eqPtr : AV → AV → Option Bool
  | .nilp, .nilp => some true
  | .nilp, .ptr _ _ => some false
  | .ptr _ _, .nilp => some false
  | .nilp, .eptr _ _ _ _ _ => some false
  | .eptr _ _ _ _ _, .nilp => some false
  | .ptr a b, .ptr c d => bif Nat.beq a c then some (Nat.beq b d) else none
  | _, _ => none
def eqSl : AV → AV → Option Bool
  | .sl _ o _, .sl _ o' _ => bif o.isNil then some o'.isNil else bif o'.isNil then some false else none
  | _, _ => none
def eqIfc : AV → AV → Option Bool
  | .nilif, .nilif => some true
  | .nilif, .ifc _ _ => some false
  | .ifc _ _, .nilif => some false
  | _, _ => none
def eqFn : AV → AV → Option Bool
  | .nilfn, .nilfn => some true
  | .nilfn, .fn _ _ _ => some false
  | .fn _ _ _, .nilfn => some false
  | _, _ => none
def eqMap : AV → AV → Option Bool
  | .nilmap, .nilmap => some true
  | .nilmap, .map _ => some false
  | .map _, .nilmap => some false
  | _, _ => none
def aggs : AV → AV → Option (List AV × List AV)
  | .agg a, .agg b => some (a, b)
  | _, _ => none

mutual
def eqv : EqK → AV → AV → Option Bool
  | .bool, x, y => eqBool x y
  | .int, x, y => eqInt x y
  | .str, x, y => eqStr x y
  | .ptr, x, y => eqPtr x y
  | .sl, x, y => eqSl x y
  | .ifc, x, y => eqIfc x y
  | .fn, x, y => eqFn x y
  | .map, x, y => eqMap x y
  | .st fs, x, y => match aggs x y with
    | some (a, b) => eqvs fs a b
    | none => none
def eqvs : List (Nat × EqK) → List AV → List AV → Option Bool
  | [], _, _ => some true
  | (off, k) :: r, a, b => match a[off]?, b[off]? with
    | some x, some y => match eqv k x y with
      | some true => eqvs r a b
      | some false => some false
      | none => none
    | _, _ => none
end

def binI (op : BinOp) (k : IntKind) (a b : Int) : Option AV :=
  match op with
  | .add => some (.int k (wr k (a + b)))
  | .sub => some (.int k (wr k (a - b)))
  | .mul => some (.int k (wr k (a * b)))
  | .quo => bif b == 0 then none else some (.int k (wr k (a.tdiv b)))
  | .rem => bif b == 0 then none else some (.int k (a.tmod b))
  | .eql => some (.bool (a == b))
  | .neq => some (.bool (a != b))
  | .lss => some (.bool (decide (a < b)))
  | .leq => some (.bool (decide (a ≤ b)))
  | .gtr => some (.bool (decide (a > b)))
  | .geq => some (.bool (decide (a ≥ b)))
  | .and => some (.int k (k.wrap (BitVec.ofInt k.bits a &&& BitVec.ofInt k.bits b).toNat))
  | .or => some (.int k (k.wrap (BitVec.ofInt k.bits a ||| BitVec.ofInt k.bits b).toNat))
  | .xor => some (.int k (k.wrap (BitVec.ofInt k.bits a ^^^ BitVec.ofInt k.bits b).toNat))
  | .andNot => some (.int k (k.wrap (BitVec.ofInt k.bits a &&& ~~~ BitVec.ofInt k.bits b).toNat))
  | _ => none

def binS (op : BinOp) (a b : List UInt8) : Option AV :=
  match op with
  | .add => bif Nat.ble (a.length + b.length) 9223372036854775807 then some (.str (a ++ b)) else none
  | .eql => some (.bool (beqB a b))
  | .neq => some (.bool (!beqB a b))
  | .lss => some (.bool (ltB a b))
  | .leq => some (.bool (ltB a b || beqB a b))
  | .gtr => some (.bool (!(ltB a b || beqB a b)))
  | .geq => some (.bool (!ltB a b))
  | _ => none

def binV (op : BinOp) (ek : Option EqK) (x y : AV) : Option AV :=
  match op, x, y with
  | .shl, .int k a, .int _ b => bif decide (b < 0) then none else some (.int k (wr k (a * 2 ^ (min b.toNat k.bits))))
  | .shr, .int k a, .int _ b => bif decide (b < 0) then none else some (.int k (a.fdiv (2 ^ (min b.toNat k.bits))))
  | op, .int k a, .int k' b => if k = k' then binI op k a b else none
  | op, .str a, .str b => binS op a b
  | .eql, x, y => match ek with
    | some e => (eqv e x y).map .bool
    | none => none
  | .neq, x, y => match ek with
    | some e => (eqv e x y).map fun b => .bool (!b)
    | none => none
  | _, _, _ => none

def unV (op : UnOp) (x : AV) : Option AV :=
  match op, x with
  | .neg, .int k n => some (.int k (wr k (0 - n)))
  | .not, .bool b => some (.bool (!b))
  | _, _ => none

def mxV : AV → AV → Option AV
  | .int k x, .int _ y => some (.int k (bif decide (y > x) then y else x))
  | _, _ => none
def mnV : AV → AV → Option AV
  | .int k x, .int _ y => some (.int k (bif decide (y < x) then y else x))
  | _, _ => none

def foldV (f : AV → AV → Option AV) : AV → List AV → Option AV
  | a, [] => some a
  | a, x :: r => (f a x).bind fun b => foldV f b r

/-- bounds of a slice expression: lo and hi within n, n the length -/
def bnds (env : Env) (n : Nat) (lo hi : Option DOpd) : Option (Nat × Nat) :=
  let h := match hi with
    | none => some n
    | some x => (opd env x).bind nat?
  let l := match lo with
    | none => some 0
    | some x => (opd env x).bind nat?
  match l, h with
  | some l, some h => bif Nat.ble l h && Nat.ble h n then some (l, h) else none
  | _, _ => none

def findK (ek : EqK) (k : AV) : List (AV × AV) → Nat → Option (Option (Nat × AV))
  | [], _ => some none
  | (k', v) :: r, i => match eqv ek k k' with
    | some true => some (some (i, v))
    | some false => findK ek k r (i + 1)
    | none => none

/-- a key that can be held against others -/
def keyFs : List (Nat × EqK) → List AV → Nat → Bool
  | [], [], _ => true
  | p :: r, _ :: cs, i => Nat.beq p.1 i && keyFs r cs (i + 1)
  | _, _, _ => false

def keyV : EqK → AV → Bool
  | .st fs, .agg cs => keyFs fs cs 0
  | .st _, _ => false
  | _, _ => true

def keyAt (ek : EqK) (es : List (AV × AV)) (i : Nat) : Bool :=
  match es[i]? with
  | some p => keyV ek p.1
  | none => false

def fillC (cs : List AV) (env : Env) : List (Nat × Nat × DOpd) → Option (List AV)
  | [] => some cs
  | (off, sz, x) :: r => match opd env x with
    | some v => bif Nat.beq v.cells.length sz && Nat.ble (off + sz) cs.length then fillC (splice cs off v.cells) env r else none
    | none => none

def fillE (es : Nat) (xs : List AV) (env : Env) : List (Nat × DOpd) → Option (List AV)
  | [] => some xs
  | (i, x) :: r => match opd env x with
    | some v => bif Nat.beq v.cells.length es && Nat.blt i xs.length then fillE es (xs.set i v) env r else none
    | none => none

/-! ## one operation -/

inductive SR where
  | fail
  | done (env : Env) (S : St)
  | call (f : FuncId) (xs : List AV)
  | pan (v : AV)

def putE (dst : Option Nat) (e : Ent) (env : Env) : Env :=
  match dst with
  | some d => (d, e) :: env
  | none => env

def putV (dst : Option Nat) (v : AV) (env : Env) : Env := putE dst (.val v) env

def SR.val (dst : Option Nat) (env : Env) (S : St) : Option AV → SR
  | some v => .done (putV dst v env) S
  | none => .fail

/-- what is appended or copied -/
def srcE (S : St) (agg : Bool) (es : Nat) : AV → Option (List AV)
  | .sl es' o ys => bif Nat.beq es' es then elems S agg es o ys else none
  | .str s => bif Nat.beq es 1 then some (ofBytes s) else none
  | _ => none

def appV (S : St) (agg : Bool) (ty : TypeId) (es bytes : Nat) (x y : AV) : Option (AV × St) :=
  match x with
  | .sl es' o xs =>
    match srcE S agg es y, elems S agg es o xs with
    | some [], some _ => some (x, S)
    | some (y :: ys), some xs' =>
      bif Nat.beq es' es && (Nat.ble ((xs.length + (y :: ys).length) * bytes) 140737488355328 && (Nat.ble (xs.length + (y :: ys).length) 140737488355328 && (Nat.ble bytes 1048576 && Nat.blt 0 es))) then
        match o.cap with
        | some c => bif Nat.ble (xs.length + (y :: ys).length) c then (match rd S o with
            | .box b boff => match lk S.boxes b with
              | some (some (ty', cs)) => bif ((y :: ys).flatMap AV.cells).all ok1 && Nat.ble (boff + (o.off + xs.length) * es + ((y :: ys).flatMap AV.cells).length) cs.length then
                  some (.sl es o (xs' ++ y :: ys), { S with boxes := (b, some (ty', splice cs (boff + (o.off + xs.length) * es) ((y :: ys).flatMap AV.cells))) :: S.boxes }) else none
              | _ => none
            | _ => none) else
            some (.sl es ⟨some (S.nt, S.nt), 0, none, false⟩ (xs' ++ y :: ys), { S with nt := S.nt + 1, tip := (S.nt, some (xs.length + (y :: ys).length, ty, false)) :: S.tip })
        | none => match o.tok, rd S o with
          | some (t, l), .here => match lk S.tip t with
            | some (some (m, ty', sf)) => bif Nat.beq ty' ty && (Nat.beq m xs.length && (Nat.beq o.off 0 && (Nat.ble l S.nt && ((y :: ys).flatMap AV.cells).all ok1))) then
                some (.sl es ⟨some (S.nt, l), 0, none, false⟩ (xs' ++ y :: ys), { S with nt := S.nt + 1, tip := (S.nt, some (xs.length + (y :: ys).length, ty, sf)) :: (t, none) :: S.tip }) else none
            | _ => none
          | _, _ => none
      else none
    | _, _ => none
  | _ => none

def xtnV : ExtK → List AV → Option AV
  | .indexByte, [.str s, .int .u8 c] => some (.int .i64 (idxB (UInt8.ofNat c.toNat) s 0))
  | .compare, [.str a, .str b] => some (.int .i64 (cmpB a b))
  | .noEscape, [x] => some x
  | _, _ => none

def stepO (gt : GT) (dst : Option Nat) (env : Env) (S : St) : DOp → SR
  | .mv x => .val dst env S (opd env x)
  | .pick c a b => match opd env c with
    | some (.bool t) => .val dst env S (bif t then opd env a else opd env b)
    | _ => .fail
  | .alL z => match dst with
    | some d => .done ((d, .box z) :: kill d env) S
    | none => .fail
  | .bxL x => match dst, opd env x with
    | some d, some v => .done ((d, .box v.cells) :: kill d env) S
    | _, _ => .fail
  | .alH ty z => .done (putV dst (.ptr S.nb 0) env) { S with nb := S.nb + 1, boxes := (S.nb, some (ty, z)) :: S.boxes }
  | .bxH ty x => match opd env x with
    | some v => .done (putV dst (.ptr S.nb 0) env) { S with nb := S.nb + 1, boxes := (S.nb, some (ty, v.cells)) :: S.boxes }
    | none => .fail
  | .bld z ps => .val dst env S ((fillC z env ps).map .agg)
  | .bldS es n z ps => .val dst env S ((fillE es (List.replicate n z) env ps).map (.sl es ⟨none, 0, some n, false⟩))
  | .bldT ty es n z ps => match fillE es (List.replicate n z) env ps with
    | some xs => .done (putV dst (.sl es ⟨some (S.nt, S.nt), 0, some n, false⟩ xs) env) { S with nt := S.nt + 1, tip := (S.nt, some (n, ty, false)) :: S.tip }
    | none => .fail
  | .ld agg sz a => match loc env a with
    | some l => .val dst env S (ldL gt env S agg sz l)
    | none => .fail
  | .st sz a x => match loc env a, opd env x with
    | some l, some v => bif Nat.beq v.cells.length sz && v.cells.all ok1 then (match stL env S v.cells l with
      | some (env', S') => .done (putV dst .undef env') S'
      | none => .fail) else .fail
    | _, _ => .fail
  | .nilc x => match loc env x with
    | some l => .done (putE dst (addL 0 l) env) S
    | none => match opd env x with
      | some (.fn f fs cs) => .done (putV dst (.fn f fs cs) env) S
      | some (.ifc t v) => .done (putV dst (.ifc t v) env) S
      | _ => .fail
  | .bin op ek x y => match opd env x, opd env y with
    | some a, some b => .val dst env S (binV op ek a b)
    | _, _ => .fail
  | .un op x => .val dst env S ((opd env x).bind (unV op))
  | .cvI k x => match opd env x with
    | some (.int _ n) => .done (putV dst (.int k (wr k n)) env) S
    | _ => .fail
  | .cvId x => match opd env x with
    | some (.str s) => .done (putV dst (.str s) env) S
    | _ => .fail
  | .cvBS x => match opd env x with
    | some (.sl 1 o xs) => .val dst env S (((elems S false 1 o xs).bind bytes?).map .str)
    | _ => .fail
  | .cvSB ty x => match opd env x with
    | some (.str s) => bif Nat.ble s.length 17592186044416 then
        .done (putV dst (.sl 1 ⟨some (S.nt, S.nt), 0, none, false⟩ (ofBytes s)) env) { S with nt := S.nt + 1, tip := (S.nt, some (s.length, ty, true)) :: S.tip } else .fail
    | _ => .fail
  | .cvU x => match opd env x with
    | some .nilp => .done (putV dst .nilp env) S
    | some (.ptr id off) => match lk S.boxes id with
      | some (some (_, cs)) => bif Nat.blt off cs.length then .done (putV dst (.ptr id off) env) S else .fail
      | _ => .fail
    | _ => .fail
  | .cvP ok x => match opd env x with
    | some .nilp => .done (putV dst .nilp env) S
    | some (.ptr id off) => match lk S.boxes id with
      | some (some (ty, cs)) => bif ok.any (fun p => Nat.beq p.1 ty && (Nat.beq p.2.1 off && Nat.ble p.2.2 cs.length)) then .done (putV dst (.ptr id off) env) S else .fail
      | _ => .fail
    | _ => .fail
  | .mki t x => .val dst env S ((opd env x).map (.ifc t))
  | .mkf f fs cs => match opds env fs, opds env cs with
    | some a, some b => .done (putV dst (.fn f a b) env) S
    | _, _ => .fail
  | .mkm => .done (putV dst (.map S.nm) env) { S with nm := S.nm + 1, maps := (S.nm, []) :: S.maps }
  | .mks ty es bytes z l c => match (opd env l).bind nat?, (opd env c).bind nat? with
    | some l, some c => bif Nat.ble l c && (Nat.ble (c * bytes) 17592186044416 && (Nat.ble c 17592186044416 && Nat.beq z.cells.length es)) then
        (bif Nat.beq c 0 then .done (putV dst (.sl es ⟨none, 0, some 0, false⟩ []) env) S else
          .done (putV dst (.sl es ⟨some (S.nt, S.nt), 0, some c, false⟩ (List.replicate l z)) env)
            { S with nb := S.nb + 1, boxes := (S.nb, some (ty, (List.replicate c z.cells).flatten)) :: S.boxes, nt := S.nt + 1, tip := (S.nt, none) :: S.tip, mv := (S.nt, .bx S.nb 0) :: S.mv }) else .fail
    | _, _ => .fail
  | .mksS es bytes z l c => match (opd env l).bind nat?, (opd env c).bind nat? with
    | some l, some c => bif Nat.ble l c && (Nat.ble (c * bytes) 17592186044416 && (Nat.ble c 17592186044416 && Nat.beq z.cells.length es)) then
        .done (putV dst (.sl es ⟨none, 0, some c, false⟩ (List.replicate l z)) env) S else .fail
    | _, _ => .fail
  | .cvRS x => match opd env x with
    | some (.int _ n) => .done (putV dst (.str (Utf8.encode n).data.toList) env) S
    | _ => .fail
  | .slS x lo hi => match opd env x with
    | some (.str s) => match bnds env s.length lo hi with
      | some (l, h) => .done (putV dst (.str ((s.drop l).take (h - l))) env) S
      | none => .fail
    | _ => .fail
  | .slA es x lo hi mx => match opd env x with
    | some (.sl es' o xs) => bif Nat.beq es es' then (match bnds env xs.length lo hi with
      | some (l, h) => match mx with
        | none => .done (putV dst (.sl es { o with off := o.off + l, cap := o.cap.map (· - l) } ((xs.drop l).take (h - l))) env) S
        | some m => match (opd env m).bind nat? with
          | some m => bif Nat.ble h m && Nat.ble m xs.length then
              .done (putV dst (.sl es { o with off := o.off + l, cap := some (m - l) } ((xs.drop l).take (h - l))) env) S else .fail
          | none => .fail
      | none => .fail) else .fail
    | _ => .fail
  | .slP es n x lo hi => match loc env x with
    | some (.hp id off) => match lk S.boxes id, bnds env n lo hi with
      | some (some (_, cs)), some (l, h) => bif Nat.ble (off + n * es) cs.length && Nat.blt 0 es then
          .done (putV dst (.sl es ⟨some (S.nt, S.nt), l, some (n - l), false⟩ (List.replicate (h - l) .undef)) env)
            { S with nt := S.nt + 1, tip := (S.nt, none) :: S.tip, mv := (S.nt, .bx id off) :: S.mv } else .fail
      | _, _ => .fail
    | _ => .fail
  | .fa off x => match loc env x with
    | some l => .done (putE dst (addL off l) env) S
    | none => .fail
  | .fd agg off sz x => match opd env x with
    | some (.agg cs) => .val dst env S ((cut cs off sz).bind (mkv agg))
    | _ => .fail
  | .ia es x i => match opd env x, (opd env i).bind nat? with
    | some (.sl es' o xs), some i => bif Nat.beq es es' && Nat.blt i xs.length then .done (putV dst (.eptr es o xs i 0) env) S else .fail
    | _, _ => .fail
  | .iaA es n x i => match loc env x, (opd env i).bind nat? with
    | some l, some i => bif Nat.blt i n then .done (putE dst (addL (i * es) l) env) S else .fail
    | _, _ => .fail
  | .ixS x i => match opd env x, (opd env i).bind nat? with
    | some (.str s), some i => match s[i]? with
      | some b => .done (putV dst (.int .u8 b.toNat) env) S
      | none => .fail
    | _, _ => .fail
  | .ixA agg es n x i => match opd env x, (opd env i).bind nat? with
    | some (.agg cs), some i => bif Nat.blt i n then .val dst env S ((cut cs (i * es) es).bind (mkv agg)) else .fail
    | _, _ => .fail
  | .lkp ek z m k ok => match opd env m, opd env k with
    | some (.map id), some k => bif keyV ek k then (match lk S.maps id with
      | some es => match findK ek k es 0 with
        | some (some (_, v)) => .done (putV dst (bif ok then .tup [v, .bool true] else v) env) S
        | some none => .done (putV dst (bif ok then .tup [z, .bool false] else z) env) S
        | none => .fail
      | none => .fail) else .fail
    | _, _ => .fail
  | .mup ek m k x => match opd env m, opd env k, opd env x with
    | some (.map id), some k, some v => bif keyV ek k then (match lk S.maps id with
      | some es => match findK ek k es 0 with
        | some (some (i, _)) => bif keyAt ek es i then .done (putV dst .undef env) { S with maps := (id, es.set i (k, v)) :: S.maps } else .fail
        | some none => .done (putV dst .undef env) { S with maps := (id, es ++ [(k, v)]) :: S.maps }
        | none => .fail
      | none => .fail) else .fail
    | _, _, _ => .fail
  | .mpe ek z m k => match opd env m, opd env k with
    | some (.map id), some k => bif keyV ek k then (match lk S.maps id with
      | some es => match findK ek k es 0 with
        | some (some (i, v)) => bif keyAt ek es i then .done (putV dst (.tup [v, .int .i64 i]) env) { S with maps := (id, es.set i (k, v)) :: S.maps } else .fail
        | some none => .done (putV dst (.tup [z, .int .i64 es.length]) env) { S with maps := (id, es ++ [(k, z)]) :: S.maps }
        | none => .fail
      | none => .fail) else .fail
    | _, _ => .fail
  | .ens m s x => match opd env m, opd env s, opd env x with
    | some (.map id), some (.int _ (.ofNat i)), some v => match lk S.maps id with
      | some es => match es[i]? with
        | some (k, _) => .done (putV dst .undef env) { S with maps := (id, es.set i (k, v)) :: S.maps }
        | none => .fail
      | none => .fail
    | _, _, _ => .fail
  | .ext x i => match opd env x with
    | some (.tup vs) => .val dst env S vs[i]?
    | _ => .fail
  | .lenS x => match opd env x with
    | some (.str s) => .done (putV dst (.int .i64 s.length) env) S
    | _ => .fail
  | .len x => match opd env x with
    | some (.sl _ _ xs) => .done (putV dst (.int .i64 xs.length) env) S
    | _ => .fail
  | .lenM x => match opd env x with
    | some .nilmap => .done (putV dst (.int .i64 0) env) S
    | some (.map id) => match lk S.maps id with
      | some es => .done (putV dst (.int .i64 es.length) env) S
      | none => .fail
    | _ => .fail
  | .lenC n => .done (putV dst (.int .i64 n) env) S
  | .app agg ty es bytes x y => match opd env x, opd env y with
    | some a, some b => match appV S agg ty es bytes a b with
      | some (v, S') => .done (putV dst v env) S'
      | none => .fail
    | _, _ => .fail
  | .usd x => match opd env x with
    | some (.sl 1 o (x :: xs)) => .done (putV dst (.eptr 1 o (x :: xs) 0 0) env) S
    | some (.sl _ o []) => bif o.isNil then .done (putV dst .anyp env) S else match o.cap with
      | some (_ + 1) => .done (putV dst .anyp env) S
      | _ => .fail
    | _ => .fail
  | .ustr ty x n => match opd env x, opd env n with
    | some .anyp, some (.int .i64 (.ofNat 0)) => .done (putV dst (.str []) env) S
    | some (.eptr 1 o xs 0 0), some (.int .i64 (.ofNat n)) => match rd S o, o.tok with
      | .here, some (t, _) => match lk S.tip t with
        | some (some (_, ty', false)) => bif Nat.beq ty ty' && (Nat.beq o.off 0 && (Nat.beq n xs.length && Nat.ble n 17592186044416)) then
            (match bytes? xs with
              | some s => .done (putV dst (.str s) env) { S with tip := (t, none) :: S.tip }
              | none => .fail) else .fail
        | _ => .fail
      | .box b boff, _ => match lk S.boxes b with
        | some (some (ty', cs)) => bif Nat.beq ty ty' && (Nat.beq (boff + o.off) 0 && (Nat.blt 0 n && (Nat.ble n cs.length && Nat.ble n 17592186044416))) then
            (match bytes? (cs.take n) with
              | some s => .done (putV dst (.str s) env) { S with boxes := (b, none) :: S.boxes }
              | none => .fail) else .fail
        | _ => .fail
      | _, _ => .fail
    | _, _ => .fail
  | .cpy es x y => match opd env x, opd env y with
    | some (.sl es' o xs), some y => match rd S o with
      | .box b boff => match lk S.boxes b with
        | some (some (ty, cs)) =>
          match srcE S (Nat.blt 1 es) es y with
          | some ys =>
            let k := min ys.length xs.length
            let new := (ys.take k).flatMap AV.cells
            bif Nat.beq es' es && (new.all ok1 && Nat.beq new.length (k * es) && Nat.ble (boff + (o.off + k) * es) cs.length) then
              .done (putV dst (.int .i64 k) env) { S with boxes := (b, some (ty, splice cs (boff + o.off * es) new)) :: S.boxes } else .fail
          | none => .fail
        | _ => .fail
      | _ => .fail
    | _, _ => .fail
  | .mx xs => match opds env xs with
    | some (v :: vs) => .val dst env S (foldV mxV v vs)
    | _ => .fail
  | .mn xs => match opds env xs with
    | some (v :: vs) => .val dst env S (foldV mnV v vs)
    | _ => .fail
  | .tas ok t z x => match opd env x with
    | some .nilif => bif ok then .done (putV dst (.tup [z, .bool false]) env) S else .fail
    | some (.ifc u v) => bif Nat.beq u t then .done (putV dst (bif ok then .tup [v, .bool true] else v) env) S else
        bif ok then .done (putV dst (.tup [z, .bool false]) env) S else .fail
    | _ => .fail
  | .xtn e xs => match opds env xs with
    | some vs => .val dst env S (xtnV e vs)
    | none => .fail
  | .call f xs => match opds env xs with
    | some vs => .call f vs
    | none => .fail
  | .callv x xs => match opd env x, opds env xs with
    | some (.fn f fs cs), some vs => .call f (fs ++ vs ++ cs)
    | _, _ => .fail
  | .inv x tab xs => match opd env x, opds env xs with
    | some (.ifc t v), some vs => match lk tab t with
      | some f => .call f (v :: vs)
      | none => .fail
    | _, _ => .fail
  | .pnc x => match opd env x with
    | some (.ifc t v) => .pan (.ifc t v)
    | _ => .fail

def stepI (gt : GT) (i : DI) (env : Env) (S : St) : SR :=
  match i.guard with
  | none => stepO gt i.dst env S i.op
  | some (g, want) => match lk env g with
    | some (.val (.bool b)) => bif b == want then stepO gt i.dst env S i.op else .done (putV i.dst .undef env) S
    | some (.val .undef) => .done (putV i.dst .undef env) S
    | _ => .fail

inductive Ex where
  | normal
  | exit (id : Nat)
  | ret
  | pan (v : AV)

inductive Res where
  | ret (v : AV)
  | pan (v : AV)

def keepE (env : Env) : List Nat → Env
  | [] => []
  | k :: r => match lk env k with
    | some (.val v) => (k, .val v) :: keepE env r
    | some (.box cs) => (k, .box cs) :: keepE env r
    | _ => keepE env r

/-- In a region that draws its order: an address operand leads to the local variable that its row names, or to none. -/
def conform (l : Option Nat) (env : Env) : DOp → Bool
  | .ld _ _ (.t n) | .fa _ (.t n) | .nilc (.t n) | .iaA _ _ (.t n) _ | .st _ (.t n) _ | .slP _ _ (.t n) _ _ => match l, lk env n with
    | some t, some (.box _) => Nat.beq t n
    | some t, some (.adr t' _) => Nat.beq t t'
    | none, some (.val _) => true
    | _, _ => false
  | _ => true

/-- no address in the frame leads into this local variable -/
def noAdr (d : Nat) (env : Env) : Bool := env.all fun p => match p.2 with
  | .adr t _ => !Nat.beq t d
  | _ => true

def isLoc : DOp → Bool
  | .alL _ | .bxL _ => true
  | _ => false

/-- a local variable is made, in a region that draws its order -/
def stepL (dst : Option Nat) (env : Env) (S : St) : DOp → SR
  | .alL z => match dst with
    | some d => bif noAdr d env then .done ((d, .box z) :: env) S else .fail
    | none => .fail
  | .bxL x => match dst, opd env x with
    | some d, some v => bif noAdr d env then .done ((d, .box v.cells) :: env) S else .fail
    | _, _ => .fail
  | _ => .fail

def stepDO (gt : GT) (i : DI × Option Nat) (env : Env) (S : St) : SR :=
  bif isLoc i.1.op then stepL i.1.dst env S i.1.op else bif conform i.2 env i.1.op then stepO gt i.1.dst env S i.1.op else .fail

def stepD (gt : GT) (i : DI × Option Nat) (env : Env) (S : St) : SR :=
  match i.1.guard with
  | none => stepDO gt i env S
  | some (g, want) => match lk env g with
    | some (.val (.bool b)) => bif b == want then stepDO gt i env S else .done (putV i.1.dst .undef env) S
    | some (.val .undef) => .done (putV i.1.dst .undef env) S
    | _ => .fail

/-! ## values held against each other -/

def beqO : Option Nat → Option Nat → Bool
  | none, none => true
  | some a, some b => Nat.beq a b
  | _, _ => false
def beqT : Option (Nat × Nat) → Option (Nat × Nat) → Bool
  | none, none => true
  | some (a, b), some (c, d) => Nat.beq a c && Nat.beq b d
  | _, _ => false
def beqSI (a b : SI) : Bool := beqT a.tok b.tok && (Nat.beq a.off b.off && (beqO a.cap b.cap && a.isNil == b.isNil))

mutual
def beqA : AV → AV → Bool
  | .undef, .undef => true
  | .bool a, .bool b => a == b
  | .int k a, .int k' b => decide (k = k') && a == b
  | .str s, .str t => beqB s t
  | .nilp, .nilp => true
  | .ptr a b, .ptr c d => Nat.beq a c && Nat.beq b d
  | .gptr a b, .gptr c d => Nat.beq a c && Nat.beq b d
  | .anyp, .anyp => true
  | .eptr es o xs i off, .eptr es' o' xs' i' off' => Nat.beq es es' && (beqSI o o' && (Nat.beq i i' && (Nat.beq off off' && beqAL xs xs')))
  | .sl es o xs, .sl es' o' xs' => Nat.beq es es' && (beqSI o o' && beqAL xs xs')
  | .fn f a b, .fn g c d => Nat.beq f g && (beqAL a c && beqAL b d)
  | .nilfn, .nilfn => true
  | .ifc t v, .ifc u w => Nat.beq t u && beqA v w
  | .nilif, .nilif => true
  | .agg a, .agg b => beqAL a b
  | .tup a, .tup b => beqAL a b
  | .nilmap, .nilmap => true
  | .map a, .map b => Nat.beq a b
  | _, _ => false
def beqAL : List AV → List AV → Bool
  | [], [] => true
  | a :: x, b :: y => beqA a b && beqAL x y
  | _, _ => false
end

/-- a row that reads would read the same again -/
def stays (gt : GT) (env : Env) (S : St) (x : DI × Option Nat) : Bool :=
  match x.1.dst with
  | some d => match stepD gt x env S with
    | .done e _ => match lk e d, lk env d with
      | some (.val v), some (.val v') => beqA v v'
      | _, _ => false
    | _ => false
  | none => false

def stab (gt : GT) (xs : List (DI × Option Nat)) (env : Env) (S : St) : Bool := xs.all (stays gt env S)

abbrev DRow := (DI × Option Nat) × List (DI × Option Nat)

abbrev CallT := FuncId → List AV → St → (Res → St → Prop) → Prop

def afterS (C : CallT) (dst : Option Nat) (env : Env) (S : St) (K : Env → St → Prop) (Q : Ex → Env → St → Prop) : SR → Prop
  | .fail => False
  | .done env' S' => K env' S'
  | .call f xs => C f xs S fun r S' => match r with
    | .ret v => K (putV dst v env) S'
    | .pan v => Q (.pan v) env S'
  | .pan v => Q (.pan v) env S

def wpIs (gt : GT) (C : CallT) : List DI → Env → St → (Ex → Env → St → Prop) → Prop
  | [], env, S, Q => Q .normal env S
  | i :: r, env, S, Q => afterS C i.dst env S (fun env' S' => wpIs gt C r env' S' Q) Q (stepI gt i env S)

def wpDs (gt : GT) (C : CallT) : List DRow → Env → St → (Ex → Env → St → Prop) → Prop
  | [], env, S, Q => Q .normal env S
  | i :: r, env, S, Q => afterS C i.1.1.dst env S (fun env' S' => stab gt i.2 env' S' = true ∧ wpDs gt C r env' S' Q) Q (stepD gt i.1 env S)

def iterD (body : Env → St → (Ex → Env → St → Prop) → Prop) : Nat → Env → St → (Ex → Env → St → Prop) → Prop
  | 0, _, _, _ => False
  | n + 1, env, S, Q => body env S fun e env' S' => match e with
    | .normal => iterD body n env' S' Q
    | e => Q e env' S'

def wpD (gt : GT) (C : CallT) : DC → Env → St → (Ex → Env → St → Prop) → Prop
  | .skip, env, S, Q => Q .normal env S
  | .reg is keep, env, S, Q => wpIs gt C is env S fun e env' S' => Q e (keepE env' keep) S'
  | .drw is keep, env, S, Q => wpDs gt C is env S fun e env' S' => Q e (keepE env' keep) S'
  | .trim keep, env, S, Q => Q .normal (keepE env keep) S
  | .fail, _, _, _ => False
  | .ndet is keep, env, S, Q => match is with
    | [a, b, c, d] => afterS C a.dst env S (fun env' S' => (wpIs gt C [b, c, d] env' S' fun e env' S' => Q e (keepE env' keep) S') ∧ (wpIs gt C [c, b, d] env' S' fun e env' S' => Q e (keepE env' keep) S')) (fun e env' S' => Q e (keepE env' keep) S') (stepI gt a env S)
    | _ => False
  | .seq a b, env, S, Q => wpD gt C a env S fun e env' S' => match e with
    | .normal => wpD gt C b env' S' Q
    | e => Q e env' S'
  | .cnd x a b, env, S, Q => match opd env x with
    | some (.bool t) => if t = true then wpD gt C a env S Q else wpD gt C b env S Q
    | _ => False
  | .blk id c, env, S, Q => wpD gt C c env S fun e env' S' => match e with
    | .exit id' => if id' = id then Q .normal env' S' else Q (.exit id') env' S'
    | e => Q e env' S'
  | .lop c, env, S, Q => ∃ n, iterD (wpD gt C c) n env S Q
  | .exit id, env, S, Q => Q (.exit id) env S
  | .ret, env, S, Q => Q .ret env S

def resV (gt : GT) (env : Env) (S : St) : DR → Option AV
  | .tmp t => match lk env t with
    | some (.val v) => some v
    | _ => none
  | .cell t agg sz => match loc env (.t t) with
    | some l => ldL gt env S agg sz l
    | none => none

def resVs (gt : GT) (env : Env) (S : St) : List DR → Option (List AV)
  | [] => some []
  | r :: rs => match resV gt env S r, resVs gt env S rs with
    | some v, some vs => some (v :: vs)
    | _, _ => none

def result (gt : GT) (env : Env) (S : St) (rs : List DR) : Option AV :=
  match resVs gt env S rs with
  | some [v] => some v
  | some vs => some (.tup vs)
  | none => none

def enterE : List AV → Nat → Env
  | [], _ => []
  | v :: vs, n => (n, .val v) :: enterE vs (n + 1)

def bodyQ (gt : GT) (rs : List DR) (Q : Res → St → Prop) : Ex → Env → St → Prop
  | .normal, env, S | .ret, env, S => ∃ v, result gt env S rs = some v ∧ Q (.ret v) S
  | .pan v, _, S => Q (.pan v) S
  | .exit _, _, _ => False

def wpF (gt : GT) (C : CallT) (F : DF) (xs : List AV) (S : St) (Q : Res → St → Prop) : Prop :=
  xs.length = F.np ∧ wpD gt C F.body (enterE xs 0) S (bodyQ gt F.res Q)

end Go.Dn
