/- An abstract interpreter for the loaded code: values, store, code, one step. From loaded code to the abstract interpreter's code. How the abstract values and the abstract store lie in the world; what stays so. The invariant, and how it is kept. The steps of the store, each kept by the invariant. The steps of the store that write. Rows of cells: read and written. How an abstract frame lies in a frame. Operands, addresses, loads and stores. One operation: what the abstract step says is what the machine does. First part. One operation, second part: addresses, loads, stores, parts. One operation, third part: arithmetic, comparing, conversions that touch no memory, lengths. One operation, fourth part. One operation, fifth part: what touches the store little. -/
import Derived.Calls
import Derived.LoopN
import Derived.Orders
import Derived.KernelRfl
import GoSem.Extern.BytealgIndexByte
import GoSem.Extern.BytealgCompare
import Derived.Below
import Derived.Laws.Cells
import Derived.Laws.StructEq
set_option linter.unusedSimpArgs false
set_option linter.unusedVariables false
namespace Go.Dn
open Go
theorem dF {p:Prop} [i:Decidable p] (h:¬p):decide p=false:=decide_eq_false h
theorem dT {p:Prop} [i:Decidable p] (h:p):decide p=true:=decide_eq_true h
theorem lA {α:Type _} {a b:List α}:(a++b).length=a.length+b.length:=List.length_append
theorem lC {α:Type _} {a:α} {b:List α}:(a::b).length=b.length+1:=List.length_cons
theorem aA {α:Type _} (a b c:List α):a++b++c=a++(b++c):=List.append_assoc a b c
theorem gE {α:Type _} {l:List α} {i:Nat} (h:i<l.length):l[i]? = some l[i]:=List.getElem?_eq_getElem h
theorem oI {α:Type _} (a b:α):(some a=some b)=(a=b):=Option.some.injEq a b
theorem bE {n m:Nat} (h:Nat.beq n m=true):n=m:=Nat.eq_of_beq_eq_true h
theorem bA (a b:Bool):((a && b)=true)=(a=true∧b=true):=Bool.and_eq_true a b
theorem nL {α:Type _} {l:List α} (h:l.length=0):l=[]:=List.eq_nil_of_length_eq_zero h
theorem lD {α:Type _} {i:Nat} {l:List α}:(l.drop i).length=l.length-i:=List.length_drop
theorem lT {α:Type _} {i:Nat} {l:List α}:(l.take i).length=min i l.length:=List.length_take
theorem dC {α:Type _} {i:Nat} {l:List α} (h:i<l.length):l.drop i=l[i]::l.drop (i+1):=List.drop_eq_getElem_cons h
theorem tS {α:Type _} {l:List α} {i:Nat} (h:i<l.length):l.take (i+1)=l.take i++[l[i]]:=List.take_succ_eq_append_getElem h
theorem tkD {α:Type _} (i:Nat) (l:List α):l.take i++l.drop i=l:=List.take_append_drop i l
theorem nR (n:Nat):n≤n:=Nat.le_refl n
theorem lN {α:Type _}:([]:List α).length=0:=rfl
theorem bL {n m:Nat} (h:Nat.ble n m=true):n≤m:=Nat.le_of_ble_eq_true h
structure SI where
  tok:Option (Nat×Nat)
  off:Nat
  cap:Option Nat
  isNil:Bool
  deriving DecidableEq
inductive AV where
  | undef
  | bool (b:Bool)
  | int (k:IntKind) (n:Int)
  | str (s:List UInt8)
  | nilp
  | ptr (id off:Nat)
  | gptr (g off:Nat)
  | anyp
  | eptr (es:Nat) (o:SI) (xs:List AV) (i off:Nat)
  | sl (es:Nat) (o:SI) (xs:List AV)
  | fn (f:FuncId) (fs cs:List AV)
  | nilfn
  | ifc (t:TypeId) (v:AV)
  | nilif
  | agg (cs:List AV)
  | tup (vs:List AV)
  | nilmap
  | map (id:Nat)
  | raw (v:Value)
def AV.cells:AV→List AV
  |.agg cs=>cs
  | v=>[v]
inductive Ent where
  | val (a:AV)
  | box (cs:List AV)
  | adr (t off:Nat)
  | unk
abbrev Env:=List (Nat×Ent)
def lk {α:Type}:List (Nat×α)→Nat→Option α
  | [],_=>none
  | (k,v)::r,n=>bif Nat.beq k n then some v else lk r n
inductive Mv where
  | bx (id off:Nat)
structure St where
  nb:Nat
  boxes:List (Nat×Option (TypeId×List AV))
  nt:Nat
  tip:List (Nat×Option (Nat×TypeId×Bool))
  mv:List (Nat×Mv)
  dl:List (Nat×Unit)
  nm:Nat
  maps:List (Nat×List (AV×AV))
def St.init:St:=⟨0,[],0,[],[],[],0,[]⟩
inductive DOpd where
  | t (n:Nat)
  | c (v:AV)
  | g (n:Nat)
  | f (n:Nat)
inductive EqK where
  | bool | int | str | ptr | sl | ifc | fn | map
  | st (fs:List (Nat×EqK))
inductive ExtK where
  | indexByte | compare | noEscape
inductive DOp where
  | mv (x:DOpd)
  | pick (c a b:DOpd)
  | alL (z:List AV)
  | alH (ty:TypeId) (z:List AV)
  | bxL (x:DOpd)
  | bxH (ty:TypeId) (x:DOpd)
  | bld (z:List AV) (ps:List (Nat×Nat×DOpd))
  | bldS (es n:Nat) (z:AV) (ps:List (Nat×DOpd))
  | bldT (ty:TypeId) (es n:Nat) (z:AV) (ps:List (Nat×DOpd))
  | ld (agg:Bool) (sz:Nat) (a:DOpd)
  | st (sz:Nat) (a x:DOpd)
  | nilc (x:DOpd)
  | bin (op:BinOp) (ek:Option EqK) (x y:DOpd)
  | un (op:UnOp) (x:DOpd)
  | cvI (k:IntKind) (x:DOpd)
  | cvId (x:DOpd)
  | cvBS (x:DOpd)
  | cvSB (ty:TypeId) (x:DOpd)
  | cvU (x:DOpd)
  | cvP (ok:List (TypeId×Nat×Nat)) (x:DOpd)
  | mki (t:TypeId) (x:DOpd)
  | mkf (f:FuncId) (fs cs:List DOpd)
  | mkm
  | mks (ty:TypeId) (es:Nat) (bytes:Nat) (z:AV) (l c:DOpd)
  | mksS (es:Nat) (bytes:Nat) (z:AV) (l c:DOpd)
  | cvRS (x:DOpd)
  | slS (x:DOpd) (lo hi:Option DOpd)
  | slA (es:Nat) (x:DOpd) (lo hi mx:Option DOpd)
  | slP (es n:Nat) (x:DOpd) (lo hi:Option DOpd)
  | fa (off:Nat) (x:DOpd)
  | fd (agg:Bool) (off sz:Nat) (x:DOpd)
  | ia (es:Nat) (x i:DOpd)
  | iaA (es n:Nat) (x i:DOpd)
  | ixS (x i:DOpd)
  | ixA (agg:Bool) (es n:Nat) (x i:DOpd)
  | lkp (ek:EqK) (z:AV) (m k:DOpd) (ok:Bool)
  | mup (ek:EqK) (m k x:DOpd)
  | mpe (ek:EqK) (z:AV) (m k:DOpd)
  | ens (m s x:DOpd)
  | ext (x:DOpd) (i:Nat)
  | len (x:DOpd)
  | lenS (x:DOpd)
  | lenM (x:DOpd)
  | lenC (n:Nat)
  | app (agg:Bool) (ty:TypeId) (es bytes:Nat) (x y:DOpd)
  | usd (x:DOpd)
  | ustr (ty:TypeId) (x n:DOpd)
  | cpy (es:Nat) (x y:DOpd)
  | mx (xs:List DOpd)
  | mn (xs:List DOpd)
  | tas (ok:Bool) (t:TypeId) (z:AV) (x:DOpd)
  | xtn (e:ExtK) (xs:List DOpd)
  | call (f:FuncId) (xs:List DOpd)
  | callv (x:DOpd) (xs:List DOpd)
  | inv (x:DOpd) (tab:List (TypeId×FuncId)) (xs:List DOpd)
  | pnc (x:DOpd)
structure DI where
  dst:Option Nat
  op:DOp
  guard:Option (Nat×Bool)
abbrev DI.s (d:Nat) (o:DOp):DI:=⟨some d,o,none⟩
abbrev DI.g (d:Nat) (o:DOp) (g:Nat) (w:Bool):DI:=⟨some d,o,some (g,w)⟩
abbrev DI.n (o:DOp):DI:=⟨none,o,none⟩
inductive DC where
  | skip
  | reg (is:List DI) (keep:List Nat)
  | drw (is:List ((DI×Option Nat)×List (DI×Option Nat))) (keep:List Nat)
  | trim (keep:List Nat)
  | fail
  | ndet (is:List DI) (keep:List Nat)
  | seq (a b:DC)
  | cnd (x:DOpd) (a b:DC)
  | blk (id:Nat) (c:DC)
  | lop (c:DC)
  | exit (id:Nat)
  | ret
inductive DR where
  | tmp (t:Nat)
  | cell (t:Nat) (agg:Bool) (sz:Nat)
structure DF where
  np:Nat
  body:DC
  res:List DR
def inR (k:IntKind) (n:Int):Bool :=
  match k,n with
  |.i64,.ofNat m=>Nat.ble m 9223372036854775807
  |.i64,.negSucc m=>Nat.ble m 9223372036854775807
  |.u64,.ofNat m=>Nat.ble m 18446744073709551615
  |.u8,.ofNat m=>Nat.ble m 255
  |.i32,.ofNat m=>Nat.ble m 2147483647
  |.i32,.negSucc m=>Nat.ble m 2147483647
  |.u32,.ofNat m=>Nat.ble m 4294967295
  | _,_=>false
def wr (k:IntKind) (n:Int):Int:=bif inR k n then n else k.wrap n
theorem inR_wrap {k:IntKind} {n:Int} (h:inR k n=true):k.wrap n=n:=by
  have p64:(2:Int) ^ 64=18446744073709551616:=by decide
  have p63:(2:Int) ^ 63=9223372036854775808:=by decide
  have p32:(2:Int) ^ 32=4294967296:=by decide
  have p31:(2:Int) ^ 31=2147483648:=by decide
  have p8:(2:Int) ^ 8=256:=by decide
  unfold inR at h
  unfold IntKind.wrap
  split at h
  all_goals try (have h':=bL h)
  all_goals try simp only [IntKind.bits,IntKind.signed,Nat.reduceSub,p64,p63,p32,p31,p8,Bool.true_and,Bool.false_and,decide_eq_true_eq,Bool.false_eq_true,if_false,Int.ofNat_eq_natCast,Int.negSucc_eq]
  all_goals try split
  all_goals first | omega | (cases h)
theorem wr_eq (k:IntKind) (n:Int):wr k n=k.wrap n:=by
  unfold wr
  cases h:inR k n
  · rfl
  · simp [inR_wrap h]
def opd (env:Env):DOpd→Option AV
  |.t n=>match lk env n with
    | some (.val v)=>some v
    | _=>none
  |.c v=>some v
  |.g n=>some (.gptr n 0)
  |.f n=>some (.fn n [] [])
def opds (env:Env):List DOpd→Option (List AV)
  | []=>some []
  | x::xs=>match opd env x,opds env xs with
    | some v,some vs=>some (v::vs)
    | _,_=>none
inductive Loc where
  | lc (t off:Nat)
  | hp (id off:Nat)
  | gl (g off:Nat)
  | el (es:Nat) (o:SI) (xs:List AV) (i off:Nat)
def locV:AV→Option Loc
  |.ptr id off=>some (.hp id off)
  |.gptr g off=>some (.gl g off)
  |.eptr es o xs i off=>some (.el es o xs i off)
  | _=>none
def loc (env:Env):DOpd→Option Loc
  |.t n=>match lk env n with
    | some (.box _)=>some (.lc n 0)
    | some (.adr t off)=>some (.lc t off)
    | some (.val v)=>locV v
    | _=>none
  |.g n=>some (.gl n 0)
  | _=>none
def cut (cs:List AV) (off sz:Nat):Option (List AV) :=
  bif Nat.ble (off+sz) cs.length then some ((cs.drop off).take sz) else none
def notAgg:AV→Bool
  |.agg _=>false
  | _=>true
def mkv (agg:Bool) (cs:List AV):Option AV :=
  bif agg then some (.agg cs) else match cs with
    | [c]=>bif notAgg c then some c else none
    | _=>none
def splice (cs:List AV) (off:Nat) (new:List AV):List AV:=cs.take off++new++cs.drop (off+new.length)
inductive Rd where
  | here
  | box (id off:Nat)
  | no
def rd (S:St) (o:SI):Rd :=
  match o.tok with
  | none=>.here
  | some (t,l)=>match lk S.mv t with
    | some (.bx b boff)=>.box b boff
    | none=>match lk S.dl l with
      | none=>.here
      | some _=>.no
def elCells (S:St) (es:Nat) (o:SI) (xs:List AV) (i:Nat):Option (List AV) :=
  match rd S o with
  |.here=>(xs[i]?).map AV.cells
  |.box b boff=>match lk S.boxes b with
    | some (some (_,cs))=>cut cs (boff+(o.off+i)*es) es
    | _=>none
  |.no=>none
def cutAll (agg:Bool) (es:Nat) (cs:List AV) (start:Nat):Nat→Option (List AV)
  | 0=>some []
  | n+1=>match (cut cs start es).bind (mkv agg),cutAll agg es cs (start+es) n with
    | some x,some r=>some (x::r)
    | _,_=>none
def elems (S:St) (agg:Bool) (es:Nat) (o:SI) (xs:List AV):Option (List AV) :=
  match rd S o with
  |.here=>some xs
  |.box b boff=>match lk S.boxes b with
    | some (some (_,cs))=>cutAll agg es cs (boff+o.off*es) xs.length
    | _=>none
  |.no=>none
abbrev GT:=List (Nat×List AV)
def ldC (gt:GT) (env:Env) (S:St) (sz:Nat):Loc→Option (List AV)
  |.lc t off=>match lk env t with
    | some (.box cs)=>cut cs off sz
    | _=>none
  |.hp id off=>match lk S.boxes id with
    | some (some (_,cs))=>cut cs off sz
    | _=>none
  |.gl g off=>match lk gt g with
    | some cs=>cut cs off sz
    | none=>none
  |.el es o xs i off=>match elCells S es o xs i with
    | some cs=>cut cs off sz
    | none=>none
def ldL (gt:GT) (env:Env) (S:St) (agg:Bool) (sz:Nat) (l:Loc):Option AV :=
  match ldC gt env S sz l with
  | some cs=>mkv agg cs
  | none=>none
def ok1:AV→Bool
  |.undef |.agg _ |.tup _=>false
  | _=>true
def stL (env:Env) (S:St) (new:List AV):Loc→Option (Env×St)
  |.lc t off=>match lk env t with
    | some (.box cs)=>bif Nat.ble (off+new.length) cs.length then some ((t,.box (splice cs off new))::env,S) else none
    | _=>none
  |.hp id off=>match lk S.boxes id with
    | some (some (ty,cs))=>bif Nat.ble (off+new.length) cs.length then some (env,{ S with boxes:=(id,some (ty,splice cs off new))::S.boxes }) else none
    | _=>none
  |.gl _ _=>none
  |.el es o xs i off=>match rd S o with
    |.box b boff=>match lk S.boxes b with
      | some (some (ty,cs))=>bif Nat.ble (off+new.length) es && (Nat.blt i xs.length && Nat.ble (boff+(o.off+i)*es+off+new.length) cs.length) then
          some (env,{ S with boxes:=(b,some (ty,splice cs (boff+(o.off+i)*es+off) new))::S.boxes }) else none
      | _=>none
    |.here=>match o.tok with
      | some (t,l)=>match lk S.tip t with
        | some (some (n,ty,_))=>bif Nat.beq o.off 0 && (Nat.beq xs.length n && (Nat.blt i n && Nat.ble (off+new.length) es)) then
            some (env,{ S with nb:=S.nb+1,boxes:=(S.nb,some (ty,splice (xs.flatMap AV.cells) (i*es+off) new))::(S.nb,some (ty,xs.flatMap AV.cells))::S.boxes,
                                mv:=(t,.bx S.nb 0)::S.mv,dl:=(l,())::S.dl,tip:=(t,none)::S.tip }) else none
        | _=>none
      | none=>none
    |.no=>none
def addL (n:Nat):Loc→Ent
  |.lc t off=>.adr t (off+n)
  |.hp id off=>.val (.ptr id (off+n))
  |.gl g off=>.val (.gptr g (off+n))
  |.el es o xs i off=>.val (.eptr es o xs i (off+n))
def kill (s:Nat):Env→Env
  | []=>[]
  | (k,.adr t o)::r=>(bif Nat.beq t s then (k,.unk) else (k,.adr t o))::kill s r
  | e::r=>e::kill s r
def beqB:List UInt8→List UInt8→Bool
  | [],[]=>true
  | a::x,b::y=>bif Nat.beq a.toNat b.toNat then beqB x y else false
  | _,_=>false
def ltB:List UInt8→List UInt8→Bool
  | _,[]=>false
  | [],_::_=>true
  | a::x,b::y=>bif Nat.blt a.toNat b.toNat then true else bif Nat.beq a.toNat b.toNat then ltB x y else false
def cmpB:List UInt8→List UInt8→Int
  | [],[]=>0
  | [],_::_=>-1
  | _::_,[]=>1
  | a::x,b::y=>bif Nat.beq a.toNat b.toNat then cmpB x y else bif Nat.blt a.toNat b.toNat then -1 else 1
def idxB (c:UInt8):List UInt8→Nat→Int
  | [],_=>-1
  | a::x,i=>bif Nat.beq a.toNat c.toNat then (i:Int) else idxB c x (i+1)
def nat? : AV→Option Nat
  |.int _ (.ofNat n)=>some n
  | _=>none
def bytes? : List AV→Option (List UInt8)
  | []=>some []
  |.int .u8 n::r=>(bytes? r).map (UInt8.ofNat n.toNat::·)
  | _=>none
def ofBytes (s:List UInt8):List AV:=s.map fun b=>.int .u8 b.toNat
def eqBool:AV→AV→Option Bool
  |.bool a,.bool b=>some (a == b)
  | _,_=>none
def eqInt:AV→AV→Option Bool
  |.int k a,.int k' b=>if k=k' then some (a == b) else none
  | _,_=>none
def eqStr:AV→AV→Option Bool
  |.str a,.str b=>some (beqB a b)
  | _,_=>none
def eqPtr:AV→AV→Option Bool
  |.nilp,.nilp=>some true
  |.nilp,.ptr _ _=>some false
  |.ptr _ _,.nilp=>some false
  |.nilp,.eptr _ _ _ _ _=>some false
  |.eptr _ _ _ _ _,.nilp=>some false
  |.ptr a b,.ptr c d=>bif Nat.beq a c then some (Nat.beq b d) else none
  | _,_=>none
def nnil (o:SI) (xs:List AV):Bool:=match xs with
  | _::_=>true
  | []=>o.tok.isSome
def eqSl:AV→AV→Option Bool
  |.sl _ o xs,.sl _ o' ys=>bif o.isNil then (bif o'.isNil then some true else bif nnil o' ys then some false else none) else bif o'.isNil then (bif nnil o xs then some false else none) else none
  | _,_=>none
def eqIfc:AV→AV→Option Bool
  |.nilif,.nilif=>some true
  |.nilif,.ifc _ _=>some false
  |.ifc _ _,.nilif=>some false
  | _,_=>none
def eqFn:AV→AV→Option Bool
  |.nilfn,.nilfn=>some true
  |.nilfn,.fn _ _ _=>some false
  |.fn _ _ _,.nilfn=>some false
  | _,_=>none
def eqMap:AV→AV→Option Bool
  |.nilmap,.nilmap=>some true
  |.nilmap,.map _=>some false
  |.map _,.nilmap=>some false
  | _,_=>none
def aggs:AV→AV→Option (List AV×List AV)
  |.agg a,.agg b=>some (a,b)
  | _,_=>none
mutual
def eqv:EqK→AV→AV→Option Bool
  |.bool,x,y=>eqBool x y
  |.int,x,y=>eqInt x y
  |.str,x,y=>eqStr x y
  |.ptr,x,y=>eqPtr x y
  |.sl,x,y=>eqSl x y
  |.ifc,x,y=>eqIfc x y
  |.fn,x,y=>eqFn x y
  |.map,x,y=>eqMap x y
  |.st fs,x,y=>match aggs x y with
    | some (a,b)=>eqvs fs a b
    | none=>none
def eqvs:List (Nat×EqK)→List AV→List AV→Option Bool
  | [],_,_=>some true
  | (off,k)::r,a,b=>match a[off]?,b[off]? with
    | some x,some y=>match eqv k x y with
      | some true=>eqvs r a b
      | some false=>some false
      | none=>none
    | _,_=>none
end
def binI (op:BinOp) (k:IntKind) (a b:Int):Option AV :=
  match op with
  |.add=>some (.int k (wr k (a+b)))
  |.sub=>some (.int k (wr k (a-b)))
  |.mul=>some (.int k (wr k (a*b)))
  |.quo=>bif b == 0 then none else some (.int k (wr k (a.tdiv b)))
  |.rem=>bif b == 0 then none else some (.int k (a.tmod b))
  |.eql=>some (.bool (a == b))
  |.neq=>some (.bool (a != b))
  |.lss=>some (.bool (decide (a<b)))
  |.leq=>some (.bool (decide (a≤b)))
  |.gtr=>some (.bool (decide (a > b)))
  |.geq=>some (.bool (decide (a ≥ b)))
  |.and=>some (.int k (k.wrap (BitVec.ofInt k.bits a &&& BitVec.ofInt k.bits b).toNat))
  |.or=>some (.int k (k.wrap (BitVec.ofInt k.bits a ||| BitVec.ofInt k.bits b).toNat))
  |.xor=>some (.int k (k.wrap (BitVec.ofInt k.bits a ^^^ BitVec.ofInt k.bits b).toNat))
  |.andNot=>some (.int k (k.wrap (BitVec.ofInt k.bits a &&& ~~~ BitVec.ofInt k.bits b).toNat))
  | _=>none
def binS (op:BinOp) (a b:List UInt8):Option AV :=
  match op with
  |.add=>bif Nat.ble (a.length+b.length) 9223372036854775807 then some (.str (a++b)) else none
  |.eql=>some (.bool (beqB a b))
  |.neq=>some (.bool (!beqB a b))
  |.lss=>some (.bool (ltB a b))
  |.leq=>some (.bool (ltB a b || beqB a b))
  |.gtr=>some (.bool (!(ltB a b || beqB a b)))
  |.geq=>some (.bool (!ltB a b))
  | _=>none
def binV (op:BinOp) (ek:Option EqK) (x y:AV):Option AV :=
  match op,x,y with
  |.shl,.int k a,.int _ b=>bif decide (b<0) then none else some (.int k (wr k (a*2 ^ (min b.toNat k.bits))))
  |.shr,.int k a,.int _ b=>bif decide (b<0) then none else some (.int k (a.fdiv (2 ^ (min b.toNat k.bits))))
  | op,.int k a,.int k' b=>if k=k' then binI op k a b else none
  | op,.str a,.str b=>binS op a b
  |.eql,x,y=>match ek with
    | some e=>(eqv e x y).map .bool
    | none=>none
  |.neq,x,y=>match ek with
    | some e=>(eqv e x y).map fun b=>.bool (!b)
    | none=>none
  | _,_,_=>none
def unV (op:UnOp) (x:AV):Option AV :=
  match op,x with
  |.neg,.int k n=>some (.int k (wr k (0-n)))
  |.not,.bool b=>some (.bool (!b))
  | _,_=>none
def mxV:AV→AV→Option AV
  |.int k x,.int _ y=>some (.int k (bif decide (y > x) then y else x))
  | _,_=>none
def mnV:AV→AV→Option AV
  |.int k x,.int _ y=>some (.int k (bif decide (y<x) then y else x))
  | _,_=>none
def foldV (f:AV→AV→Option AV):AV→List AV→Option AV
  | a,[]=>some a
  | a,x::r=>(f a x).bind fun b=>foldV f b r
def bnds (env:Env) (n:Nat) (lo hi:Option DOpd):Option (Nat×Nat) :=
  let h:=match hi with
    | none=>some n
    | some x=>(opd env x).bind nat?
  let l:=match lo with
    | none=>some 0
    | some x=>(opd env x).bind nat?
  match l,h with
  | some l,some h=>bif Nat.ble l h && Nat.ble h n then some (l,h) else none
  | _,_=>none
def findK (ek:EqK) (k:AV):List (AV×AV)→Nat→Option (Option (Nat×AV))
  | [],_=>some none
  | (k',v)::r,i=>match eqv ek k k' with
    | some true=>some (some (i,v))
    | some false=>findK ek k r (i+1)
    | none=>none
def keyFs:List (Nat×EqK)→List AV→Nat→Bool
  | [],[],_=>true
  | p::r,_::cs,i=>Nat.beq p.1 i && keyFs r cs (i+1)
  | _,_,_=>false
def keyV:EqK→AV→Bool
  |.st fs,.agg cs=>keyFs fs cs 0
  |.st _,_=>false
  | _,_=>true
def keyAt (ek:EqK) (es:List (AV×AV)) (i:Nat):Bool :=
  match es[i]? with
  | some p=>keyV ek p.1
  | none=>false
def fillC (cs:List AV) (env:Env):List (Nat×Nat×DOpd)→Option (List AV)
  | []=>some cs
  | (off,sz,x)::r=>match opd env x with
    | some v=>bif Nat.beq v.cells.length sz && Nat.ble (off+sz) cs.length then fillC (splice cs off v.cells) env r else none
    | none=>none
def fillE (es:Nat) (xs:List AV) (env:Env):List (Nat×DOpd)→Option (List AV)
  | []=>some xs
  | (i,x)::r=>match opd env x with
    | some v=>bif Nat.beq v.cells.length es && Nat.blt i xs.length then fillE es (xs.set i v) env r else none
    | none=>none
inductive SR where
  | fail
  | done (env:Env) (S:St)
  | call (f:FuncId) (xs:List AV)
  | pan (v:AV)
def putE (dst:Option Nat) (e:Ent) (env:Env):Env :=
  match dst with
  | some d=>(d,e)::env
  | none=>env
def putV (dst:Option Nat) (v:AV) (env:Env):Env:=putE dst (.val v) env
def SR.val (dst:Option Nat) (env:Env) (S:St):Option AV→SR
  | some v=>.done (putV dst v env) S
  | none=>.fail
def srcE (S:St) (agg:Bool) (es:Nat):AV→Option (List AV)
  |.sl es' o ys=>bif Nat.beq es' es then elems S agg es o ys else none
  |.str s=>bif Nat.beq es 1 then some (ofBytes s) else none
  | _=>none
def appV (S:St) (agg:Bool) (ty:TypeId) (es bytes:Nat) (x y:AV):Option (AV×St) :=
  match x with
  |.sl es' o xs =>
    match srcE S agg es y,elems S agg es o xs with
    | some [],some _=>some (x,S)
    | some (y::ys),some xs' =>
      bif Nat.beq es' es && (Nat.ble ((xs.length+(y::ys).length)*bytes) 140737488355328 && (Nat.ble (xs.length+(y::ys).length) 140737488355328 && (Nat.ble bytes 1048576 && Nat.blt 0 es))) then
        match o.cap with
        | some c=>bif Nat.ble (xs.length+(y::ys).length) c then (match rd S o with
            |.box b boff=>match lk S.boxes b with
              | some (some (ty',cs))=>bif ((y::ys).flatMap AV.cells).all ok1 && Nat.ble (boff+(o.off+xs.length)*es+((y::ys).flatMap AV.cells).length) cs.length then
                  some (.sl es o (xs'++y::ys),{ S with boxes:=(b,some (ty',splice cs (boff+(o.off+xs.length)*es) ((y::ys).flatMap AV.cells)))::S.boxes }) else none
              | _=>none
            | _=>none) else
            some (.sl es ⟨some (S.nt,S.nt),0,none,false⟩ (xs'++y::ys),{ S with nt:=S.nt+1,tip:=(S.nt,some (xs.length+(y::ys).length,ty,false))::S.tip })
        | none=>match o.tok,rd S o with
          | some (t,l),.here=>match lk S.tip t with
            | some (some (m,ty',sf))=>bif Nat.beq ty' ty && (Nat.beq m xs.length && (Nat.beq o.off 0 && (Nat.ble l S.nt && ((y::ys).flatMap AV.cells).all ok1))) then
                some (.sl es ⟨some (S.nt,l),0,none,false⟩ (xs'++y::ys),{ S with nt:=S.nt+1,tip:=(S.nt,some (xs.length+(y::ys).length,ty,sf))::(t,none)::S.tip }) else none
            | _=>none
          | _,_=>none
      else none
    | _,_=>none
  | _=>none
def xtnV:ExtK→List AV→Option AV
  |.indexByte,[.str s,.int .u8 c]=>some (.int .i64 (idxB (UInt8.ofNat c.toNat) s 0))
  |.compare,[.str a,.str b]=>some (.int .i64 (cmpB a b))
  |.noEscape,[x]=>some x
  | _,_=>none
def stepO (gt:GT) (dst:Option Nat) (env:Env) (S:St):DOp→SR
  |.mv x=>.val dst env S (opd env x)
  |.pick c a b=>match opd env c with
    | some (.bool t)=>.val dst env S (bif t then opd env a else opd env b)
    | _=>.fail
  |.alL z=>match dst with
    | some d=>.done ((d,.box z)::kill d env) S
    | none=>.fail
  |.bxL x=>match dst,opd env x with
    | some d,some v=>.done ((d,.box v.cells)::kill d env) S
    | _,_=>.fail
  |.alH ty z=>.done (putV dst (.ptr S.nb 0) env) { S with nb:=S.nb+1,boxes:=(S.nb,some (ty,z))::S.boxes }
  |.bxH ty x=>match opd env x with
    | some v=>.done (putV dst (.ptr S.nb 0) env) { S with nb:=S.nb+1,boxes:=(S.nb,some (ty,v.cells))::S.boxes }
    | none=>.fail
  |.bld z ps=>.val dst env S ((fillC z env ps).map .agg)
  |.bldS es n z ps=>.val dst env S ((fillE es (List.replicate n z) env ps).map (.sl es ⟨none,0,some n,false⟩))
  |.bldT ty es n z ps=>match fillE es (List.replicate n z) env ps with
    | some xs=>.done (putV dst (.sl es ⟨some (S.nt,S.nt),0,some n,false⟩ xs) env) { S with nt:=S.nt+1,tip:=(S.nt,some (n,ty,false))::S.tip }
    | none=>.fail
  |.ld agg sz a=>match loc env a with
    | some l=>.val dst env S (ldL gt env S agg sz l)
    | none=>.fail
  |.st sz a x=>match loc env a,opd env x with
    | some l,some v=>bif Nat.beq v.cells.length sz && v.cells.all ok1 then (match stL env S v.cells l with
      | some (env',S')=>.done (putV dst .undef env') S'
      | none=>.fail) else .fail
    | _,_=>.fail
  |.nilc x=>match loc env x with
    | some l=>.done (putE dst (addL 0 l) env) S
    | none=>match opd env x with
      | some (.fn f fs cs)=>.done (putV dst (.fn f fs cs) env) S
      | some (.ifc t v)=>.done (putV dst (.ifc t v) env) S
      | _=>.fail
  |.bin op ek x y=>match opd env x,opd env y with
    | some a,some b=>.val dst env S (binV op ek a b)
    | _,_=>.fail
  |.un op x=>.val dst env S ((opd env x).bind (unV op))
  |.cvI k x=>match opd env x with
    | some (.int _ n)=>.done (putV dst (.int k (wr k n)) env) S
    | _=>.fail
  |.cvId x=>match opd env x with
    | some (.str s)=>.done (putV dst (.str s) env) S
    | _=>.fail
  |.cvBS x=>match opd env x with
    | some (.sl 1 o xs)=>.val dst env S (((elems S false 1 o xs).bind bytes?).map .str)
    | _=>.fail
  |.cvSB ty x=>match opd env x with
    | some (.str s)=>bif Nat.ble s.length 17592186044416 then
        .done (putV dst (.sl 1 ⟨some (S.nt,S.nt),0,none,false⟩ (ofBytes s)) env) { S with nt:=S.nt+1,tip:=(S.nt,some (s.length,ty,true))::S.tip } else .fail
    | _=>.fail
  |.cvU x=>match opd env x with
    | some .nilp=>.done (putV dst .nilp env) S
    | some (.ptr id off)=>match lk S.boxes id with
      | some (some (_,cs))=>bif Nat.blt off cs.length then .done (putV dst (.ptr id off) env) S else .fail
      | _=>.fail
    | _=>.fail
  |.cvP ok x=>match opd env x with
    | some .nilp=>.done (putV dst .nilp env) S
    | some (.ptr id off)=>match lk S.boxes id with
      | some (some (ty,cs))=>bif ok.any (fun p=>Nat.beq p.1 ty && (Nat.beq p.2.1 off && Nat.ble p.2.2 cs.length)) then .done (putV dst (.ptr id off) env) S else .fail
      | _=>.fail
    | _=>.fail
  |.mki t x=>.val dst env S ((opd env x).map (.ifc t))
  |.mkf f fs cs=>match opds env fs,opds env cs with
    | some a,some b=>.done (putV dst (.fn f a b) env) S
    | _,_=>.fail
  |.mkm=>.done (putV dst (.map S.nm) env) { S with nm:=S.nm+1,maps:=(S.nm,[])::S.maps }
  |.mks ty es bytes z l c=>match (opd env l).bind nat?,(opd env c).bind nat? with
    | some l,some c=>bif Nat.ble l c && (Nat.ble (c*bytes) 17592186044416 && (Nat.ble c 17592186044416 && Nat.beq z.cells.length es)) then
        (bif Nat.beq c 0 then .done (putV dst (.sl es ⟨none,0,some 0,false⟩ []) env) S else
          .done (putV dst (.sl es ⟨some (S.nt,S.nt),0,some c,false⟩ (List.replicate l z)) env)
            { S with nb:=S.nb+1,boxes:=(S.nb,some (ty,(List.replicate c z.cells).flatten))::S.boxes,nt:=S.nt+1,tip:=(S.nt,none)::S.tip,mv:=(S.nt,.bx S.nb 0)::S.mv }) else .fail
    | _,_=>.fail
  |.mksS es bytes z l c=>match (opd env l).bind nat?,(opd env c).bind nat? with
    | some l,some c=>bif Nat.ble l c && (Nat.ble (c*bytes) 17592186044416 && (Nat.ble c 17592186044416 && Nat.beq z.cells.length es)) then
        .done (putV dst (.sl es ⟨none,0,some c,false⟩ (List.replicate l z)) env) S else .fail
    | _,_=>.fail
  |.cvRS x=>match opd env x with
    | some (.int _ n)=>.done (putV dst (.str (Utf8.encode n).data.toList) env) S
    | _=>.fail
  |.slS x lo hi=>match opd env x with
    | some (.str s)=>match bnds env s.length lo hi with
      | some (l,h)=>.done (putV dst (.str ((s.drop l).take (h-l))) env) S
      | none=>.fail
    | _=>.fail
  |.slA es x lo hi mx=>match opd env x with
    | some (.sl es' o xs)=>bif Nat.beq es es' then (match bnds env xs.length lo hi with
      | some (l,h)=>match mx with
        | none=>.done (putV dst (.sl es { o with off:=o.off+l,cap:=o.cap.map (· - l) } ((xs.drop l).take (h-l))) env) S
        | some m=>match (opd env m).bind nat? with
          | some m=>bif Nat.ble h m && Nat.ble m xs.length then
              .done (putV dst (.sl es { o with off:=o.off+l,cap:=some (m-l) } ((xs.drop l).take (h-l))) env) S else .fail
          | none=>.fail
      | none=>.fail) else .fail
    | _=>.fail
  |.slP es n x lo hi=>match loc env x with
    | some (.hp id off)=>match lk S.boxes id,bnds env n lo hi with
      | some (some (_,cs)),some (l,h)=>bif Nat.ble (off+n*es) cs.length && Nat.blt 0 es then
          .done (putV dst (.sl es ⟨some (S.nt,S.nt),l,some (n-l),false⟩ (List.replicate (h-l) .undef)) env)
            { S with nt:=S.nt+1,tip:=(S.nt,none)::S.tip,mv:=(S.nt,.bx id off)::S.mv } else .fail
      | _,_=>.fail
    | _=>.fail
  |.fa off x=>match loc env x with
    | some l=>.done (putE dst (addL off l) env) S
    | none=>.fail
  |.fd agg off sz x=>match opd env x with
    | some (.agg cs)=>.val dst env S ((cut cs off sz).bind (mkv agg))
    | _=>.fail
  |.ia es x i=>match opd env x,(opd env i).bind nat? with
    | some (.sl es' o xs),some i=>bif Nat.beq es es' && Nat.blt i xs.length then .done (putV dst (.eptr es o xs i 0) env) S else .fail
    | _,_=>.fail
  |.iaA es n x i=>match loc env x,(opd env i).bind nat? with
    | some l,some i=>bif Nat.blt i n then .done (putE dst (addL (i*es) l) env) S else .fail
    | _,_=>.fail
  |.ixS x i=>match opd env x,(opd env i).bind nat? with
    | some (.str s),some i=>match s[i]? with
      | some b=>.done (putV dst (.int .u8 b.toNat) env) S
      | none=>.fail
    | _,_=>.fail
  |.ixA agg es n x i=>match opd env x,(opd env i).bind nat? with
    | some (.agg cs),some i=>bif Nat.blt i n then .val dst env S ((cut cs (i*es) es).bind (mkv agg)) else .fail
    | _,_=>.fail
  |.lkp ek z m k ok=>match opd env m,opd env k with
    | some (.map id),some k=>bif keyV ek k then (match lk S.maps id with
      | some es=>match findK ek k es 0 with
        | some (some (_,v))=>.done (putV dst (bif ok then .tup [v,.bool true] else v) env) S
        | some none=>.done (putV dst (bif ok then .tup [z,.bool false] else z) env) S
        | none=>.fail
      | none=>.fail) else .fail
    | _,_=>.fail
  |.mup ek m k x=>match opd env m,opd env k,opd env x with
    | some (.map id),some k,some v=>bif keyV ek k then (match lk S.maps id with
      | some es=>match findK ek k es 0 with
        | some (some (i,_))=>bif keyAt ek es i then .done (putV dst .undef env) { S with maps:=(id,es.set i (k,v))::S.maps } else .fail
        | some none=>.done (putV dst .undef env) { S with maps:=(id,es++[(k,v)])::S.maps }
        | none=>.fail
      | none=>.fail) else .fail
    | _,_,_=>.fail
  |.mpe ek z m k=>match opd env m,opd env k with
    | some (.map id),some k=>bif keyV ek k then (match lk S.maps id with
      | some es=>match findK ek k es 0 with
        | some (some (i,v))=>bif keyAt ek es i then .done (putV dst (.tup [v,.int .i64 i]) env) { S with maps:=(id,es.set i (k,v))::S.maps } else .fail
        | some none=>.done (putV dst (.tup [z,.int .i64 es.length]) env) { S with maps:=(id,es++[(k,z)])::S.maps }
        | none=>.fail
      | none=>.fail) else .fail
    | _,_=>.fail
  |.ens m s x=>match opd env m,opd env s,opd env x with
    | some (.map id),some (.int _ (.ofNat i)),some v=>match lk S.maps id with
      | some es=>match es[i]? with
        | some (k,_)=>.done (putV dst .undef env) { S with maps:=(id,es.set i (k,v))::S.maps }
        | none=>.fail
      | none=>.fail
    | _,_,_=>.fail
  |.ext x i=>match opd env x with
    | some (.tup vs)=>.val dst env S vs[i]?
    | _=>.fail
  |.lenS x=>match opd env x with
    | some (.str s)=>.done (putV dst (.int .i64 s.length) env) S
    | _=>.fail
  |.len x=>match opd env x with
    | some (.sl _ _ xs)=>.done (putV dst (.int .i64 xs.length) env) S
    | _=>.fail
  |.lenM x=>match opd env x with
    | some .nilmap=>.done (putV dst (.int .i64 0) env) S
    | some (.map id)=>match lk S.maps id with
      | some es=>.done (putV dst (.int .i64 es.length) env) S
      | none=>.fail
    | _=>.fail
  |.lenC n=>.done (putV dst (.int .i64 n) env) S
  |.app agg ty es bytes x y=>match opd env x,opd env y with
    | some a,some b=>match appV S agg ty es bytes a b with
      | some (v,S')=>.done (putV dst v env) S'
      | none=>.fail
    | _,_=>.fail
  |.usd x=>match opd env x with
    | some (.sl 1 o (x::xs))=>.done (putV dst (.eptr 1 o (x::xs) 0 0) env) S
    | some (.sl _ o [])=>bif o.isNil then .done (putV dst .anyp env) S else match o.cap with
      | some (_+1)=>.done (putV dst .anyp env) S
      | _=>.fail
    | _=>.fail
  |.ustr ty x n=>match opd env x,opd env n with
    | some .anyp,some (.int .i64 (.ofNat 0))=>.done (putV dst (.str []) env) S
    | some (.eptr 1 o xs 0 0),some (.int .i64 (.ofNat n))=>match rd S o,o.tok with
      |.here,some (t,_)=>match lk S.tip t with
        | some (some (_,ty',false))=>bif Nat.beq ty ty' && (Nat.beq o.off 0 && (Nat.beq n xs.length && Nat.ble n 17592186044416)) then
            (match bytes? xs with
              | some s=>.done (putV dst (.str s) env) { S with tip:=(t,none)::S.tip }
              | none=>.fail) else .fail
        | _=>.fail
      |.box b boff,_=>match lk S.boxes b with
        | some (some (ty',cs))=>bif Nat.beq ty ty' && (Nat.beq (boff+o.off) 0 && (Nat.blt 0 n && (Nat.ble n cs.length && Nat.ble n 17592186044416))) then
            (match bytes? (cs.take n) with
              | some s=>.done (putV dst (.str s) env) { S with boxes:=(b,none)::S.boxes }
              | none=>.fail) else .fail
        | _=>.fail
      | _,_=>.fail
    | _,_=>.fail
  |.cpy es x y=>match opd env x,opd env y with
    | some (.sl es' o xs),some y=>match srcE S (Nat.blt 1 es) es y with
      | some ys=>bif Nat.beq es' es then (bif Nat.beq (min ys.length xs.length) 0 then .done (putV dst (.int .i64 0) env) S else match rd S o with
        |.box b boff=>match lk S.boxes b with
          | some (some (ty,cs))=>bif ((ys.take (min ys.length xs.length)).flatMap AV.cells).all ok1 && Nat.ble (boff+o.off*es+((ys.take (min ys.length xs.length)).flatMap AV.cells).length) cs.length then
              .done (putV dst (.int .i64 ((min ys.length xs.length:Nat):Int)) env) { S with boxes:=(b,some (ty,splice cs (boff+o.off*es) ((ys.take (min ys.length xs.length)).flatMap AV.cells)))::S.boxes } else .fail
          | _=>.fail
        | _=>.fail) else .fail
      | none=>.fail
    | _,_=>.fail
  |.mx xs=>match opds env xs with
    | some (v::vs)=>.val dst env S (foldV mxV v vs)
    | _=>.fail
  |.mn xs=>match opds env xs with
    | some (v::vs)=>.val dst env S (foldV mnV v vs)
    | _=>.fail
  |.tas ok t z x=>match opd env x with
    | some .nilif=>bif ok then .done (putV dst (.tup [z,.bool false]) env) S else .fail
    | some (.ifc u v)=>bif Nat.beq u t then .done (putV dst (bif ok then .tup [v,.bool true] else v) env) S else
        bif ok then .done (putV dst (.tup [z,.bool false]) env) S else .fail
    | _=>.fail
  |.xtn e xs=>match opds env xs with
    | some vs=>.val dst env S (xtnV e vs)
    | none=>.fail
  |.call f xs=>match opds env xs with
    | some vs=>.call f vs
    | none=>.fail
  |.callv x xs=>match opd env x,opds env xs with
    | some (.fn f fs cs),some vs=>.call f (fs++vs++cs)
    | _,_=>.fail
  |.inv x tab xs=>match opd env x,opds env xs with
    | some (.ifc t v),some vs=>match lk tab t with
      | some f=>.call f (v::vs)
      | none=>.fail
    | _,_=>.fail
  |.pnc x=>match opd env x with
    | some (.ifc t v)=>.pan (.ifc t v)
    | _=>.fail
def stepI (gt:GT) (i:DI) (env:Env) (S:St):SR :=
  match i.guard with
  | none=>stepO gt i.dst env S i.op
  | some (g,want)=>match lk env g with
    | some (.val (.bool b))=>bif b == want then stepO gt i.dst env S i.op else .done (putV i.dst .undef env) S
    | some (.val .undef)=>.done (putV i.dst .undef env) S
    | _=>.fail
inductive Ex where
  | normal
  | exit (id:Nat)
  | ret
  | pan (v:AV)
inductive Res where
  | ret (v:AV)
  | pan (v:AV)
def keepE (env:Env):List Nat→Env
  | []=>[]
  | k::r=>match lk env k with
    | some (.val v)=>(k,.val v)::keepE env r
    | some (.box cs)=>(k,.box cs)::keepE env r
    | _=>keepE env r
def conform (l:Option Nat) (env:Env):DOp→Bool
  |.ld _ _ (.t n) |.fa _ (.t n) |.nilc (.t n) |.iaA _ _ (.t n) _ |.st _ (.t n) _ |.slP _ _ (.t n) _ _=>match l,lk env n with
    | some t,some (.box _)=>Nat.beq t n
    | some t,some (.adr t' _)=>Nat.beq t t'
    | none,some (.val _)=>true
    | _,_=>false
  | _=>true
def noAdr (d:Nat) (env:Env):Bool:=env.all fun p=>match p.2 with
  |.adr t _=>!Nat.beq t d
  | _=>true
def isLoc:DOp→Bool
  |.alL _ |.bxL _=>true
  | _=>false
def stepL (dst:Option Nat) (env:Env) (S:St):DOp→SR
  |.alL z=>match dst with
    | some d=>bif noAdr d env then .done ((d,.box z)::env) S else .fail
    | none=>.fail
  |.bxL x=>match dst,opd env x with
    | some d,some v=>bif noAdr d env then .done ((d,.box v.cells)::env) S else .fail
    | _,_=>.fail
  | _=>.fail
def stepDO (gt:GT) (i:DI×Option Nat) (env:Env) (S:St):SR :=
  bif isLoc i.1.op then stepL i.1.dst env S i.1.op else bif conform i.2 env i.1.op then stepO gt i.1.dst env S i.1.op else .fail
def stepD (gt:GT) (i:DI×Option Nat) (env:Env) (S:St):SR :=
  match i.1.guard with
  | none=>stepDO gt i env S
  | some (g,want)=>match lk env g with
    | some (.val (.bool b))=>bif b == want then stepDO gt i env S else .done (putV i.1.dst .undef env) S
    | some (.val .undef)=>.done (putV i.1.dst .undef env) S
    | _=>.fail
def beqO:Option Nat→Option Nat→Bool
  | none,none=>true
  | some a,some b=>Nat.beq a b
  | _,_=>false
def beqT:Option (Nat×Nat)→Option (Nat×Nat)→Bool
  | none,none=>true
  | some (a,b),some (c,d)=>Nat.beq a c && Nat.beq b d
  | _,_=>false
def beqSI (a b:SI):Bool:=beqT a.tok b.tok && (Nat.beq a.off b.off && (beqO a.cap b.cap && a.isNil == b.isNil))
mutual
def beqA:AV→AV→Bool
  |.undef,.undef=>true
  |.bool a,.bool b=>a == b
  |.int k a,.int k' b=>decide (k=k') && a == b
  |.str s,.str t=>beqB s t
  |.nilp,.nilp=>true
  |.ptr a b,.ptr c d=>Nat.beq a c && Nat.beq b d
  |.gptr a b,.gptr c d=>Nat.beq a c && Nat.beq b d
  |.anyp,.anyp=>true
  |.eptr es o xs i off,.eptr es' o' xs' i' off'=>Nat.beq es es' && (beqSI o o' && (Nat.beq i i' && (Nat.beq off off' && beqAL xs xs')))
  |.sl es o xs,.sl es' o' xs'=>Nat.beq es es' && (beqSI o o' && beqAL xs xs')
  |.fn f a b,.fn g c d=>Nat.beq f g && (beqAL a c && beqAL b d)
  |.nilfn,.nilfn=>true
  |.ifc t v,.ifc u w=>Nat.beq t u && beqA v w
  |.nilif,.nilif=>true
  |.agg a,.agg b=>beqAL a b
  |.tup a,.tup b=>beqAL a b
  |.nilmap,.nilmap=>true
  |.map a,.map b=>Nat.beq a b
  | _,_=>false
def beqAL:List AV→List AV→Bool
  | [],[]=>true
  | a::x,b::y=>beqA a b && beqAL x y
  | _,_=>false
end
def stays (gt:GT) (env:Env) (S:St) (x:DI×Option Nat):Bool :=
  match x.1.dst with
  | some d=>match stepD gt x env S with
    |.done e _=>match lk e d,lk env d with
      | some (.val v),some (.val v')=>beqA v v'
      | _,_=>false
    | _=>false
  | none=>false
def stab (gt:GT) (xs:List (DI×Option Nat)) (env:Env) (S:St):Bool:=xs.all (stays gt env S)
abbrev DRow:=(DI×Option Nat)×List (DI×Option Nat)
abbrev CallT:=FuncId→List AV→St→(Res→St→Prop)→Prop
def afterS (C:CallT) (dst:Option Nat) (env:Env) (S:St) (K:Env→St→Prop) (Q:Ex→Env→St→Prop):SR→Prop
  |.fail=>False
  |.done env' S'=>K env' S'
  |.call f xs=>C f xs S fun r S'=>match r with
    |.ret v=>K (putV dst v env) S'
    |.pan v=>Q (.pan v) env S'
  |.pan v=>Q (.pan v) env S
def wpIs (gt:GT) (C:CallT):List DI→Env→St→(Ex→Env→St→Prop)→Prop
  | [],env,S,Q=>Q .normal env S
  | i::r,env,S,Q=>afterS C i.dst env S (fun env' S'=>wpIs gt C r env' S' Q) Q (stepI gt i env S)
def wpDs (gt:GT) (C:CallT):List DRow→Env→St→(Ex→Env→St→Prop)→Prop
  | [],env,S,Q=>Q .normal env S
  | i::r,env,S,Q=>afterS C i.1.1.dst env S (fun env' S'=>stab gt i.2 env' S'=true∧wpDs gt C r env' S' Q) Q (stepD gt i.1 env S)
def iterD (body:Env→St→(Ex→Env→St→Prop)→Prop):Nat→Env→St→(Ex→Env→St→Prop)→Prop
  | 0,_,_,_=>False
  | n+1,env,S,Q=>body env S fun e env' S'=>match e with
    |.normal=>iterD body n env' S' Q
    | e=>Q e env' S'
def wpD (gt:GT) (C:CallT):DC→Env→St→(Ex→Env→St→Prop)→Prop
  |.skip,env,S,Q=>Q .normal env S
  |.reg is keep,env,S,Q=>wpIs gt C is env S fun e env' S'=>Q e (keepE env' keep) S'
  |.drw is keep,env,S,Q=>wpDs gt C is env S fun e env' S'=>Q e (keepE env' keep) S'
  |.trim keep,env,S,Q=>Q .normal (keepE env keep) S
  |.fail,_,_,_=>False
  |.ndet is keep,env,S,Q=>match is with
    | [a,b,c,d]=>afterS C a.dst env S (fun env' S'=>(wpIs gt C [b,c,d] env' S' fun e env' S'=>Q e (keepE env' keep) S')∧(wpIs gt C [c,b,d] env' S' fun e env' S'=>Q e (keepE env' keep) S')) (fun e env' S'=>Q e (keepE env' keep) S') (stepI gt a env S)
    | _=>False
  |.seq a b,env,S,Q=>wpD gt C a env S fun e env' S'=>match e with
    |.normal=>wpD gt C b env' S' Q
    | e=>Q e env' S'
  |.cnd x a b,env,S,Q=>match opd env x with
    | some (.bool t)=>if t=true then wpD gt C a env S Q else wpD gt C b env S Q
    | _=>False
  |.blk id c,env,S,Q=>wpD gt C c env S fun e env' S'=>match e with
    |.exit id'=>if id'=id then Q .normal env' S' else Q (.exit id') env' S'
    | e=>Q e env' S'
  |.lop c,env,S,Q=>∃n,iterD (wpD gt C c) n env S Q
  |.exit id,env,S,Q=>Q (.exit id) env S
  |.ret,env,S,Q=>Q .ret env S
def resV (gt:GT) (env:Env) (S:St):DR→Option AV
  |.tmp t=>match lk env t with
    | some (.val v)=>some v
    | _=>none
  |.cell t agg sz=>match loc env (.t t) with
    | some l=>ldL gt env S agg sz l
    | none=>none
def resVs (gt:GT) (env:Env) (S:St):List DR→Option (List AV)
  | []=>some []
  | r::rs=>match resV gt env S r,resVs gt env S rs with
    | some v,some vs=>some (v::vs)
    | _,_=>none
def result (gt:GT) (env:Env) (S:St) (rs:List DR):Option AV :=
  match resVs gt env S rs with
  | some [v]=>some v
  | some vs=>some (.tup vs)
  | none=>none
def enterE:List AV→Nat→Env
  | [],_=>[]
  | v::vs,n=>(n,.val v)::enterE vs (n+1)
def bodyQ (gt:GT) (rs:List DR) (Q:Res→St→Prop):Ex→Env→St→Prop
  |.normal,env,S |.ret,env,S=>∃v,result gt env S rs=some v∧Q (.ret v) S
  |.pan v,_,S=>Q (.pan v) S
  |.exit _,_,_=>False
def wpF (gt:GT) (C:CallT) (F:DF) (xs:List AV) (S:St) (Q:Res→St→Prop):Prop :=
  xs.length=F.np∧wpD gt C F.body (enterE xs 0) S (bodyQ gt F.res Q)

def isAggP (P:Program)(t:TypeId):Option Bool :=
 match P.underlying t with
 | some (.struct _) | some (.array _ _)=>some true
 | some _=>some false
 | none=>none
def sizeP (P:Program)(t:TypeId):Option Nat:=(P.info? t).map (·.size)
def esP (P:Program)(t:TypeId):Option Nat :=
 match P.underlying t with
 | some (.slice e)=>sizeP P e
 | _=>none
def cell1 (es:Nat):Value->Option AV
 |.bool b=>some (.bool b)
 |.int k n=>some (.int k n)
 |.string s=>some (.str s.data.toList)
 |.pointer none=>some .nilp
 |.slice none 0 0=>some (.sl es ⟨none,0,some 0,true⟩ [])
 |.map none=>some .nilmap
 |.nilFunc=>some .nilfn
 |.nilIface=>some .nilif
 | _=>none
def cellEs (P:Program):Nat->TypeId->List Nat
 | 0,_=>[]
 | d+1,t=>match P.underlying t with
  | some (.struct fs)=>fs.toList.flatMap λf=>cellEs P d f.type
  | some (.array n e)=>(List.replicate n (cellEs P d e)).flatten
  | some (.slice e)=>[(sizeP P e).getD 0]
  | _=>[0]
def cellsC:List Nat->List Value->Option (List AV)
 | [],[]=>some []
 | e::es,v::vs=>match cell1 e v,cellsC es vs with
  | some a,some r=>some (a::r)
  | _,_=>none
 | _,_=>none
def constC (P:Program)(t:TypeId)(v:Value):Option AV :=
 match v with
 |.agg cs=>(cellsC (cellEs P 12 t) cs.toList).map .agg
 |.tuple vs=>if vs.size=0 then some .undef else none
 | v=>cell1 ((esP P t).getD 0) v
def zeroC (P:Program)(t:TypeId):Option (List AV) :=
 match P.info? t with
 | some i=>match i.zero with
  | some z=>(constC P t z).map AV.cells
  | none=>none
 | none=>none
def opdP (P:Program)(t:TypeId):Operand->Option DOpd
 |.tmp n=>some (.t n)
 |.const v=>(constC P t v).map .c
 |.global g=>some (.g g)
 |.func f=>some (.f f)
def opdsP (P:Program):List TypeId->List Operand->Option (List DOpd)
 | [],[]=>some []
 | t::ts,x::xs=>match opdP P t x,opdsP P ts xs with
  | some a,some r=>some (a::r)
  | _,_=>none
 | _,_=>none
def eqkP (P:Program):Nat->TypeId->Option EqK
 | 0,_=>none
 | d+1,t=>match P.underlying t with
  | some .bool=>some .bool
  | some (.int _)=>some .int
  | some .string=>some .str
  | some (.pointer e)=>match sizeP P e with
   | some (_+1)=>some .ptr
   | _=>none
  | some (.slice _)=>some .sl
  | some (.interface _)=>some .ifc
  | some (.func _ _ _)=>some .fn
  | some (.map _ _)=>some .map
  | some (.struct fs) =>
   if P.stoodInHeld t then none else
   (fs.toList.mapM fun (f : Field) => if f.name = "_" then none else match isAggP P f.type with
    | some false=>(eqkP P d f.type).map λk=>(f.offset,k)
    | _=>none).map .st
  | some (.array n e)=>match isAggP P e,sizeP P e with
   | some false,some 1=>(eqkP P d e).map λk=>.st ((List.range n).map λi=>(i,k))
   | _,_=>none
  | _=>none
def isConstO:Operand->Bool
 |.const _=>true
 | _=>false
def eqkO (P:Program)(t:TypeId)(x y:Operand):Option EqK :=
 match eqkP P 8 t with
 | some .ifc=>if isConstO x || isConstO y then some .ifc else none
 | some (.st fs)=>if P.eqGuardType P.depth t then none else some (.st fs)
 | r=>r
def simpleK:EqK->Bool
 |.bool |.int |.str=>true
 | _=>false
def keyK (P:Program)(t:TypeId):Option EqK :=
 match P.underlying t with
 | some .bool=>some .bool
 | some (.int _)=>some .int
 | some .string=>some .str
 | some (.struct _) | some (.array _ _)=>match eqkP P 8 t with
  | some (.st fs)=>if fs.all (λp=>simpleK p.2) then some (.st fs) else none
  | _=>none
 | _=>none
def elemC (P:Program)(t:TypeId):Option AV :=
 match P.info? t with
 | some i=>match i.zero with
  | some z=>constC P t z
  | none=>none
 | none=>none
def partsP (P:Program)(fs:Array Field):List (Nat×Operand)->Option (List (Nat×Nat×DOpd))
 | []=>some []
 | (i,x)::r=>match fs[i]? with
  | some f=>match sizeP P f.type,opdP P f.type x,partsP P fs r with
   | some s,some x,some r=>some ((f.offset,s,x)::r)
   | _,_,_=>none
  | none=>none
def partsA (P:Program)(e:TypeId)(s:Nat):List (Nat×Operand)->Option (List (Nat×Nat×DOpd))
 | []=>some []
 | (i,x)::r=>match opdP P e x,partsA P e s r with
  | some x,some r=>some ((i*s,s,x)::r)
  | _,_=>none
def partsS (P:Program)(e:TypeId):List (Nat×Operand)->Option (List (Nat×DOpd))
 | []=>some []
 | (i,x)::r=>match opdP P e x,partsS P e r with
  | some x,some r=>some ((i,x)::r)
  | _,_=>none
def opdO (P:Program)(t:TypeId):Option Operand->Option (Option DOpd)
 | none=>some none
 | some x=>(opdP P t x).map some
def extP (P:Program)(f:FuncId):Option (Option ExtK) :=
 match P.funcs[f]? with
 | some fn => if fn.name == "runtime.NumGoroutine" then none else
  if fn.body.isSome then some none else if fn.origin == "" then
  if fn.name == "internal/bytealg.IndexByteString" then some (some .indexByte) else
  if fn.name == "internal/bytealg.abigen_runtime_cmpstring" then some (some .compare) else
  if fn.name == "internal/abi.NoEscape" then some (some .noEscape) else none else none
 | none=>none
def callP (P:Program)(c:Call)(type:TypeId):Option DOp :=
 match c.callee with
 |.value (.func f)=>match extP P f,opdsP P c.argTypes.toList c.args.toList with
  | some none,some xs=>some (.call f xs)
  | some (some e),some xs=>some (.xtn e xs)
  | _,_=>none
 |.value x=>match opdsP P c.argTypes.toList c.args.toList with
  | some xs=>(opdP P type x).bind λx=>some (.callv x xs)
  | none=>none
 |.invoke _ _=>none
 |.builtin b=>match b,c.argTypes.toList,c.args.toList with
  |.len,[t],[x]=>match P.underlying t with
   | some .string=>(opdP P t x).map .lenS
   | some (.slice _)=>(opdP P t x).map .len
   | some (.map _ _)=>(opdP P t x).map .lenM
   | some (.array n _)=>some (.lenC n)
   | _=>none
  |.append,[t,u],[x,y]=>match P.underlying t,P.underlying u with
   | some (.slice e),some (.slice _) | some (.slice e),some .string=>match isAggP P e,P.info? e,opdP P t x,opdP P u y,elemC P e with
    | some a,some i,some x,some y,some z=>if z.cells.length=i.size then some (.app a e i.size i.bytes x y) else none
    | _,_,_,_,_=>none
   | _,_=>none
  |.unsafeSliceData,[t],[x]=>match P.underlying t with
   | some (.slice e)=>match P.underlying e with
    | some (.int .u8)=>(opdP P t x).map .usd
    | _=>none
   | _=>none
  |.unsafeString,[t,u],[x,n]=>match P.underlying t with
   | some (.pointer e)=>match sizeP P e,opdP P t x,opdP P u n with
    | some 1,some x,some n=>some (.ustr e x n)
    | _,_,_=>none
   | _=>none
  |.copy,[t,u],[x,y]=>match P.underlying t with
   | some (.slice e)=>match P.info? e,opdP P t x,opdP P u y with
    | some i,some x,some y=>some (.cpy i.size x y)
    | _,_,_=>none
   | _=>none
  |.max,ts,xs=>(opdsP P ts xs).map .mx
  |.min,ts,xs=>(opdsP P ts xs).map .mn
  | _,_,_=>none
def okP (P:Program)(u:TypeId):List (TypeId×Nat×Nat) :=
 (List.range P.types.size).flatMap λt=>match sizeP P t with
  | some s=>if Nat.ble s 64 then (List.range (min s 9)).filterMap λoff=>if liesAt P P.depth t 1 off u 1 then some (t,off,s) else none else []
  | none=>[]
def convP (P:Program)(s d:TypeId)(x:Operand):Option DOp :=
 match P.underlying s,P.underlying d with
 | some (.int _),some (.int k)=>(opdP P s x).map (.cvI k)
 | some .string,some .string=>(opdP P s x).map .cvId
 | some (.int _),some .string=>(opdP P s x).map .cvRS
 | some (.slice e),some .string=>match P.underlying e with
  | some (.int .u8)=>(opdP P s x).map .cvBS
  | _=>none
 | some .string,some (.slice e)=>match P.underlying e with
  | some (.int .u8)=>if sizeP P e=some 1 then (opdP P s x).map (.cvSB e) else none
  | _=>none
 | some (.pointer t),some .unsafePointer=>match sizeP P t with
  | some (_+1)=>(opdP P s x).map .cvU
  | _=>none
 | some .unsafePointer,some (.pointer u)=>match sizeP P u with
  | some (_+1)=>(opdP P s x).map (.cvP (okP P u))
  | _=>none
 | _,_=>none
def prepO (P:Program)(locs:List Nat)(tk:Bool)(o:Oper):Option DOp :=
 let isL:=match o.dst with
  | some d=>locs.any (Nat.beq d)
  | none=>false
 match o.op with
 |.move x |.assign x=>(opdP P o.type x).map .mv
 |.pick c a b=>match opdP P o.type c,opdP P o.type a,opdP P o.type b with
  | some c,some a,some b=>some (.pick c a b)
  | _,_,_=>none
 |.alloc e=>(zeroC P e).map λz=>if isL then .alL z else .alH e z
 |.box e x=>(opdP P e x).map λx=>if isL then .bxL x else .bxH e x
 |.build t ps=>match zeroC P t,P.underlying t with
  | some z,some (.struct fs)=>if fs.toList.all (λ(f:Field)=>(sizeP P f.type).isSome) then (partsP P fs ps.toList).map (.bld z) else none
  | some z,some (.array _ e)=>match sizeP P e with
   | some s=>(partsA P e s ps.toList).map (.bld z)
   | none=>none
  | _,_=>none
 |.buildSlice t n ps=>match P.underlying t with
  | some (.slice e)=>match sizeP P e,elemC P e,partsS P e ps.toList with
   | some s,some z,some ps=>if 0<s/\n*s<=16777216/\z.cells.length=s then some (if tk then .bldT e s n z ps else .bldS s n z ps) else none
   | _,_,_=>none
  | _=>none
 |.load t a=>match isAggP P t,sizeP P t,opdP P 0 a with
  | some g,some s,some a=>if g=true\/s=1 then some (.ld g s a) else none
  | _,_,_=>none
 |.store t a x=>match sizeP P t,opdP P 0 a,opdP P t x with
  | some s,some a,some x=>some (.st s a x)
  | _,_,_=>none
 |.nilCheck x=>(opdP P 0 x).map .nilc
 |.binOp op t x y u=>match opdP P t x,opdP P u y with
  | some a,some b=>match op with
   |.eql |.neq=>some (.bin op (eqkO P t x y) a b)
   | _=>some (.bin op none a b)
  | _,_=>none
 |.unOp op t x=>(opdP P t x).map (.un op)
 |.convert s d x=>convP P s d x
 |.makeInterface t x=>match P.underlying t with
  | some (.interface _)=>none
  | some _=>(opdP P t x).map (.mki t)
  | none=>none
 |.makeFunc (.func f) fs cs=>match opdsP P (List.replicate fs.size 0) fs.toList,opdsP P (List.replicate cs.size 0) cs.toList with
  | some fs,some cs=>some (.mkf f fs cs)
  | _,_=>none
 |.makeMap t none=>match P.underlying t with
  | some (.map _ _)=>some .mkm
  | _=>none
 |.makeSlice t l c=>match P.underlying t with
  | some (.slice e)=>match P.info? e,elemC P e,opdP P 0 l,opdP P 0 c with
   | some i,some z,some l,some c=>if 0<i.size then some (if tk then .mks e i.size i.bytes z l c else .mksS i.size i.bytes z l c) else none
   | _,_,_,_=>none
  | _=>none
 |.slice t x lo hi mx=>match P.underlying t with
  | some .string=>match opdP P t x,opdO P 0 lo,opdO P 0 hi,mx with
   | some x,some lo,some hi,none=>some (.slS x lo hi)
   | _,_,_,_=>none
  | some (.slice e)=>match sizeP P e,opdP P t x,opdO P 0 lo,opdO P 0 hi,opdO P 0 mx with
   | some s,some x,some lo,some hi,some mx=>if mx.isSome && hi.isNone then none else some (.slA s x lo hi mx)
   | _,_,_,_,_=>none
  | some (.array n e)=>match sizeP P e,opdP P t x,opdO P 0 lo,opdO P 0 hi,mx with
   | some s,some x,some lo,some hi,none=>some (.slP s n x lo hi)
   | _,_,_,_,_=>none
  | _=>none
 |.fieldAddr t x f=>match P.underlying t with
  | some (.struct fs)=>match fs[f]? with
   | some fd=>match sizeP P fd.type,opdP P 0 x with
    | some (_+1),some x=>some (.fa fd.offset x)
    | _,_=>none
   | none=>none
  | _=>none
 |.field t x f=>match P.underlying t with
  | some (.struct fs)=>match fs[f]? with
   | some fd=>match isAggP P fd.type,sizeP P fd.type,opdP P t x with
    | some g,some s,some x=>if g=true\/s=1 then some (.fd g fd.offset s x) else none
    | _,_,_=>none
   | none=>none
  | _=>none
 |.indexAddr t x i=>match P.underlying t with
  | some (.slice e)=>match sizeP P e,opdP P t x,opdP P 0 i with
   | some s,some x,some i=>if 0<s then some (.ia s x i) else none
   | _,_,_=>none
  | some (.array n e)=>match sizeP P e,opdP P t x,opdP P 0 i with
   | some s,some x,some i=>some (.iaA s n x i)
   | _,_,_=>none
  | _=>none
 |.index t x i=>match P.underlying t with
  | some .string=>match opdP P t x,opdP P 0 i with
   | some x,some i=>some (.ixS x i)
   | _,_=>none
  | some (.array n e)=>match isAggP P e,sizeP P e,opdP P t x,opdP P 0 i with
   | some g,some s,some x,some i=>if g=true\/s=1 then some (.ixA g s n x i) else none
   | _,_,_,_=>none
  | _=>none
 |.lookup t m k ok=>match P.underlying t with
  | some (.map kt e)=>match keyK P kt,elemC P e,opdP P t m,opdP P kt k with
   | some q,some z,some m,some k=>some (.lkp q z m k ok)
   | _,_,_,_=>none
  | _=>none
 |.mapUpdate t m k x |.insert t m k x=>match P.underlying t with
  | some (.map kt e)=>match keyK P kt,opdP P t m,opdP P kt k,opdP P e x with
   | some q,some m,some k,some x=>some (.mup q m k x)
   | _,_,_,_=>none
  | _=>none
 |.mapEntry t m k=>match P.underlying t with
  | some (.map kt e)=>match keyK P kt,elemC P e,opdP P t m,opdP P kt k with
   | some q,some z,some m,some k=>some (.mpe q z m k)
   | _,_,_,_=>none
  | _=>none
 |.entryStore t m s x=>match P.underlying t with
  | some (.map _ e)=>match opdP P t m,opdP P 0 s,opdP P e x with
   | some m,some s,some x=>some (.ens m s x)
   | _,_,_=>none
  | _=>none
 |.typeAssert x t a ok=>match P.underlying a with
  | some (.interface _)=>none
  | some _=>match elemC P a,opdP P t x with
   | some z,some x=>some (.tas ok a z x)
   | _,_=>none
  | none=>none
 |.extract x i=>(opdP P 0 x).map λx=>.ext x i
 |.call c=>callP P c o.type
 |.panic x=>(opdP P 0 x).map .pnc
 | _=>none
structure Lim where
 n:Nat
 pin:List Nat
def Lim.ok (N:Lim)(d:Nat):Prop:=d<N.n/\∀t∈N.pin,t≠d
def dstOK (N:Lim):Option Nat->Bool
 | some d=>Nat.blt d N.n && N.pin.all λt=>!Nat.beq t d
 | none=>true
def prepI (P:Program)(N:Lim)(locs:List Nat)(tk:Bool)(ops:Array Oper)(o:Oper):Option DI :=
 if dstOK N o.dst=false then none else
 match prepO P locs tk o with
 | some op=>match o.guard with
  | none=>some ⟨o.dst,op,none⟩
  | some (j,want)=>match (ops[j]?).bind (·.dst) with
   | some d=>some ⟨o.dst,op,some (d,want)⟩
   | none=>none
 | none=>none
def prepIs (P:Program)(N:Lim)(locs:List Nat)(tk:Bool)(ops:Array Oper):List Oper->Option (List DI)
 | []=>some []
 | o::r=>match prepI P N locs tk ops o,prepIs P N locs tk ops r with
  | some a,some b=>some (a::b)
  | _,_=>none
def slotO:DOpd->List Nat
 |.t n=>[n]
 | _=>[]
def slotOO:Option DOpd->List Nat
 | some x=>slotO x
 | none=>[]
def readsO:DOp->List Nat
 |.mv x |.bxL x |.bxH _ x |.ld _ _ x |.nilc x |.un _ x |.cvI _ x |.cvId x |.cvRS x |.cvBS x |.cvSB _ x |.cvU x |.cvP _ x |.usd x |.mki _ x |.fa _ x |.fd _ _ _ x |.ext x _ |.len x |.lenS x |.lenM x |.tas _ _ _ x |.pnc x=>slotO x
 |.pick a b c |.mup _ a b c |.ens a b c=>slotO a++slotO b++slotO c
 |.alL _ |.alH _ _ |.mkm |.lenC _=>[]
 |.bld _ ps=>ps.flatMap λp=>slotO p.2.2
 |.bldS _ _ _ ps |.bldT _ _ _ _ ps=>ps.flatMap λp=>slotO p.2
 |.st _ a x |.bin _ _ a x |.mks _ _ _ _ a x |.mksS _ _ _ a x |.ia _ a x |.iaA _ _ a x |.ixS a x |.ixA _ _ _ a x |.lkp _ _ a x _ |.mpe _ _ a x |.app _ _ _ _ a x |.ustr _ a x |.cpy _ a x=>slotO a++slotO x
 |.mkf _ fs cs=>fs.flatMap slotO++cs.flatMap slotO
 |.slS x lo hi |.slP _ _ x lo hi=>slotO x++slotOO lo++slotOO hi
 |.slA _ x lo hi mx=>slotO x++slotOO lo++slotOO hi++slotOO mx
 |.mx xs |.mn xs |.xtn _ xs |.call _ xs=>xs.flatMap slotO
 |.callv x xs |.inv x _ xs=>slotO x++xs.flatMap slotO
inductive Eff where
 | pure | reads | acts
 deriving DecidableEq
def effO (l:Option Nat):DOp->Eff
 |.ld _ _ (.g _)=>.pure
 |.ld ..=>if l.isSome then .pure else .reads
 |.st ..=>if l.isSome then .pure else .acts
 |.cvBS _ |.cvU _ |.cvP .. |.lkp .. |.lenM _=>.reads
 |.bldT .. |.alH .. |.bxH .. |.cvSB .. |.ustr .. |.mkm |.mks .. |.slP .. |.mup .. |.mpe .. |.ens .. |.app .. |.cpy .. |.call .. |.callv .. |.inv .. |.pnc _=>.acts
 | _=>.pure
def readsI (i:DI×Option Nat):List Nat :=
 readsO i.1.op++(match i.1.guard with | some (g,_)=>[g] | none=>[])++i.2.toList
def writesI (i:DI×Option Nat):List Nat :=
 i.1.dst.toList++(match i.1.op with |.st ..=>i.2.toList | _=>[])
def meets (a b:List Nat):Bool:=a.any λx=>b.any (Nat.beq x)
def clashW (i j:DI×Option Nat):Bool :=
 meets (writesI i) (readsI j) || (meets (readsI i) (writesI j) || meets (writesI i) (writesI j))
def clashE (i j:DI×Option Nat):Bool :=
 match effO i.2 i.1.op,effO j.2 j.1.op with
 |.acts,_ |.reads,.acts=>true
 | _,_=>false
def clash (i j:DI×Option Nat):Bool:=clashW i j || clashE i j
def isReads:Eff->Bool
 |.reads=>true
 | _=>false
def isActs:Eff->Bool
 |.acts=>true
 | _=>false
def softC (i j:DI×Option Nat):Bool:=!clashW i j && (isReads (effO i.2 i.1.op) && isActs (effO j.2 j.1.op))
def bindOn (o:Oper):List Nat:=(o.after.toList.filter (Region.binds .any)).map (·.on)
def ancs:Nat->List Oper->List (List Nat)->Option (List (List Nat))
 | _,[],acc=>some acc
 | i,o::r,acc =>
  let d:=bindOn o
  if d.all λj=>Nat.blt j i then
   ancs (i+1) r (acc++[(List.range i).filter λj=>d.any λk=>Nat.beq k j || (acc.getD k []).any (Nat.beq j)]) else none
def canonO (acts:List Bool)(anc:List (List Nat)):Nat->List Nat->List Nat->List Nat
 | 0,_,acc=>acc.reverse
 | k+1,rem,acc =>
  let rdy:=rem.filter λi=>(anc.getD i []).all λj=>acc.any (Nat.beq j)
  match rdy.find? λi=>!acts.getD i true with
  | some i=>canonO acts anc k (rem.filter λj=>!Nat.beq j i) (i::acc)
  | none=>match rdy with
   | i::_=>canonO acts anc k (rem.filter λj=>!Nat.beq j i) (i::acc)
   | []=>acc.reverse
def pickRows (l:List (DI×Option Nat)):List Nat->Option (List (Nat×DI×Option Nat))
 | []=>some []
 | i::r=>match l[i]?,pickRows l r with
  | some x,some xs=>some ((i,x)::xs)
  | _,_=>none
def softP (anc:List (List Nat))(z y:Nat×DI×Option Nat):Bool:=!(anc.getD y.1 []).any (Nat.beq z.1) && (!(anc.getD z.1 []).any (Nat.beq y.1) && softC z.2 y.2)
def isSoft (anc:List (List Nat))(rows:List (Nat×DI×Option Nat))(z:Nat×DI×Option Nat):Bool:=rows.any (softP anc z)
def chkOf (anc:List (List Nat))(rows:List (Nat×DI×Option Nat))(y:Nat×DI×Option Nat):List (DI×Option Nat):=(rows.filter λz=>softP anc z y).map (·.2)
def pairsOK (anc:List (List Nat))(all:List (Nat×DI×Option Nat)):List (Nat×DI×Option Nat)->Bool
 | []=>true
 | x::r=>(r.all λy=>!Nat.beq x.1 y.1 && (((anc.getD y.1 []).any (Nat.beq x.1) || (!clash x.2 y.2 || softP anc x y)) && (!isSoft anc all x || !meets (writesI y.2) (readsI x.2++writesI x.2)))) &&
   ((!isSoft anc all x || !meets (writesI x.2) (readsI x.2)) && pairsOK anc all r)
def drwOK (n:Nat)(anc:List (List Nat))(rows:List (Nat×DI×Option Nat)):Bool :=
 Nat.ble rows.length n && (pairsOK anc rows rows && (List.range n).all (λi=>rows.any λp=>Nat.beq p.1 i))
def canonRows (l:List (DI×Option Nat))(anc:List (List Nat)):Option (List (Nat×DI×Option Nat)) :=
 match pickRows l (canonO (l.map λx=>isActs (effO x.2 x.1.op)) anc l.length (List.range l.length) []) with
 | some rows=>if drwOK l.length anc rows then some rows else none
 | none=>none
def zipL:List DI->List (Option Nat)->List (DI×Option Nat)
 | [],_=>[]
 | i::r,[]=>(i,none)::zipL r []
 | i::r,l::ls=>(i,l)::zipL r ls
structure Note where
 locs:List Nat
 keep:List (Nat×List Nat)
 lcl:List (Nat×List (Option Nat))
def ndetP (ops:Array Oper):Bool :=
 match ops.toList with
 | [a,b,c,d]=>match b.op,c.op with
  |.store _ (.tmp _) (.const (.bool true)),.store _ (.tmp _) (.const (.bool false)) =>
   (bindOn a).isEmpty && (bindOn b).all (Nat.beq 0) && !(bindOn b).isEmpty && (bindOn c).all (Nat.beq 0) && !(bindOn c).isEmpty && (bindOn d).any (Nat.beq 1) && (bindOn d).any (Nat.beq 2) && (bindOn d).all λj=>Nat.ble j 2
  | _,_=>false
 | _=>false
def prepC (P:Program)(N:Lim)(n:Note):Code->Option DC
 |.skip=>some .skip
 |.region id ops false=>match prepIs P N n.locs true ops ops.toList with
  | some is=>some (.reg is ((lk n.keep id).getD []))
  | none=>some .fail
 |.region id ops true=>if ndetP ops then (match prepIs P N n.locs true ops ops.toList with
   | some is=>some (.ndet is ((lk n.keep id).getD []))
   | none=>some .fail) else match prepIs P N n.locs false ops ops.toList,ancs 0 ops.toList [] with
  | some is,some anc =>
   match canonRows (zipL is ((lk n.lcl id).getD [])) anc with
   | some rows=>some (.drw (rows.map λp=>(p.2,chkOf anc rows p)) ((lk n.keep id).getD []))
   | none=>some .fail
  | _,_=>some .fail
 |.seq a b=>match prepC P N n a,prepC P N n b with
  | some a,some b=>some (.seq a b)
  | _,_=>none
 |.cond c a b=>match opdP P 0 c,prepC P N n a,prepC P N n b with
  | some c,some a,some b=>some (.cnd c a b)
  | _,_,_=>none
 |.block id (.loop c)=>(prepC P N n c).map λd=>.blk id (.seq (.trim ((lk n.keep (1000000+id)).getD [])) (.lop (.seq d (.trim ((lk n.keep (1000000+id)).getD [])))))
 |.block id c=>(prepC P N n c).map (.blk id)
 |.loop c=>(prepC P N n c).map .lop
 |.exit id=>some (.exit id)
 |.ret=>some .ret
 | _=>some .fail
def resP (P:Program):List ResultVar->Option (List DR)
 | []=>some []
 |.tmp t::r=>(resP P r).map (.tmp t::·)
 |.cell a t::r=>match isAggP P t,sizeP P t,resP P r with
  | some g,some s,some r=>if g=true\/s=1 then some (.cell a g s::r) else none
  | _,_,_=>none
def prepF (P:Program)(n:Note)(fn:Func):Option DF :=
 match fn.body with
 | some c=>match prepC P ⟨fn.ntmps,[]⟩ n c,resP P fn.results.toList with
  | some d,some r=>if fn.params.size+fn.nfree<=fn.ntmps then some ⟨fn.params.size+fn.nfree,d,r⟩ else none
  | _,_=>none
 | none=>none
end Go.Dn

namespace Go.Dn
open Go Go.RowKit
structure Gh where
 β:Nat->Nat
 τ:Nat->Nat
 ln:Nat->Nat
 sz:Nat->Nat
 μ:Nat->Nat
 st:Nat->Prop
def oneCell:Value->Bool
 |.agg _ |.tuple _=>false
 | _=>true
def Own (S:St)(G:Gh)(b:Nat):Prop :=
 (∃id,id<S.nb/\G.β id=b)\/(∃t,t<S.nt/\G.τ t=b)\/(∃id,id<S.nm/\G.μ id=b)
def SlOK (S:St)(G:Gh)(w:World)(es:Nat)(o:SI)(n:Nat)(a:Option Addr)(len cap:Nat):Prop :=
 len=n/\len<=cap/\((o.isNil=true->a=none)/\(o.tok.isSome=true->a=none->o.isNil=true))/\(∀c,o.cap=some c->cap=c)/\(a=none->cap=0) /\
 ∀p,a=some p->0<cap->0<es/\p.spot=none/\(∃ty k,w.shape? p.block=some (ty,k)/\p.off+cap*es<=k) /\
  match rd S o with
  |.here=>match o.tok with
   | none=>G.st p.block
   | some (t,l)=>t<S.nt/\G.ln t=l/\G.τ t=p.block/\p.off=o.off*es/\p.off+len*es<=G.sz p.block
  |.box b boff=>b<S.nb/\p.block=G.β b/\p.off=boff+o.off*es/\(∀t l,o.tok=some (t,l)->t<S.nt/\G.ln t=l)
  |.no=>∀t l,o.tok=some (t,l)->t<S.nt/\G.ln t=l
mutual
def Rv (S:St)(G:Gh)(w:World):AV->Value->Prop
 |.undef,v=>v=undef
 |.bool b,v=>v=.bool b
 |.int k n,v=>v=.int k n
 |.str s,v=>v=.string ⟨⟨s⟩⟩
 |.nilp,v=>v=.pointer none
 |.ptr id off,v=>id<S.nb/\v=.pointer (some ⟨G.β id,off,none⟩)
 |.gptr g off,v=>v=.pointer (some ⟨g,off,none⟩)
 |.anyp,v=>∃p,v=.pointer p
 |.eptr es o xs i off,v=>∃p len cap,SlOK S G w es o xs.length (some p) len cap/\(rd S o=.here->Rat S G w p.block es xs p.off)/\i<xs.length/\v=.pointer (some ⟨p.block,p.off+i*es+off,none⟩)
 |.sl es o xs,v=>∃a len cap,v=.slice a len cap/\SlOK S G w es o xs.length a len cap/\(rd S o=.here->∀p,a=some p->Rat S G w p.block es xs p.off)
 |.fn f fs cs,v=>∃a b,v=.func (.func f) ⟨a⟩ ⟨b⟩/\Rl S G w fs a/\Rl S G w cs b
 |.nilfn,v=>v=.nilFunc
 |.ifc t x,v=>∃u,v=.iface t u/\Rv S G w x u
 |.nilif,v=>v=.nilIface
 |.agg cs,v=>∃vs,v=.agg ⟨vs⟩/\Rl S G w cs vs
 |.tup xs,v=>∃vs,v=.tuple ⟨vs⟩/\Rl S G w xs vs
 |.nilmap,v=>v=.map none
 |.map id,v=>id<S.nm/\v=.map (some (G.μ id))
 |.raw u,v=>v=u/\oneCell u=true
def Rl (S:St)(G:Gh)(w:World):List AV->List Value->Prop
 | [],vs=>vs=[]
 | x::xs,vs=>∃v r,vs=v::r/\Rv S G w x v/\Rl S G w xs r
def Rat (S:St)(G:Gh)(w:World)(b es:Nat):List AV->Nat->Prop
 | [],_=>True
 | x::xs,off=>(∃v,Rv S G w x v/\v.cells.size=es/\∀j,j<es->w.cell? ⟨b,off+j,none⟩=v.cells[j]?)/\Rat S G w b es xs (off+es)
end
structure Ext (S:St)(G:Gh)(w:World)(S':St)(G':Gh)(w':World):Prop where
 nb:S.nb<=S'.nb
 nt:S.nt<=S'.nt
 nm:S.nm<=S'.nm
 β:∀id,id<S.nb->G'.β id=G.β id
 τ:∀t,t<S.nt->G'.τ t=G.τ t
 ln:∀t,t<S.nt->G'.ln t=G.ln t
 μ:∀id,id<S.nm->G'.μ id=G.μ id
 size:w.heap.size<=w'.heap.size
 own:∀b,b<w.heap.size->Own S' G' b->Own S G b
 st:∀b,G.st b->G'.st b/\w'.heap[b]? = w.heap[b]?
 stNew:∀b,b<w.heap.size->G'.st b->G.st b
 shape:∀b x,w.shape? b=some x->w'.shape? b=some x
 mv:∀t m,t<S.nt->lk S.mv t=some m->lk S'.mv t=some m
 dl:∀l,lk S'.dl l=none->lk S.dl l=none
 sea:∀t,t<S.nt->lk S'.mv t=none->lk S'.dl (G.ln t)=none ->
  G.sz (G.τ t)<=G'.sz (G.τ t)/\∀i,i<G.sz (G.τ t)->w'.cell? ⟨G.τ t,i,none⟩=w.cell? ⟨G.τ t,i,none⟩
 moved:∀t b o,t<S.nt->lk S.mv t=none->lk S'.mv t=some (.bx b o)->lk S.dl (G.ln t)=none/\G'.β b=G.τ t/\b<S'.nb/\o=0
 os:w'.os=w.os
 tape:w'.tape=w.tape
 output:w'.output=w.output
theorem rd_none {S:St}{o:SI}(h:o.tok=none):rd S o=.here:=by unfold rd;rw[h]
section mono
variable {S:St}{G:Gh}{w:World}{S':St}{G':Gh}{w':World}
theorem rd_ext (h:Ext S G w S' G' w'){o:SI}(hr:rd S' o=.here)(ht:∀t l,o.tok=some (t,l)->t<S.nt):rd S o=.here:=by
 unfold rd at hr ⊢;cases ho:o.tok with
 | none=>rfl
 | some tl =>
  obtain⟨t,l⟩:=tl;simp only[ho]at hr ⊢;cases hm:lk S.mv t with
  | some m=>rw[h.mv t m (ht t l ho) hm]at hr;cases m;simp at hr
  | none =>
   cases hm':lk S'.mv t with
   | some m=>rw[hm']at hr;cases m;simp at hr
   | none =>
    rw[hm']at hr;cases hd:lk S'.dl l with
    | some u=>rw[hd]at hr;simp at hr
    | none=>simp[h.dl l hd]
theorem SlOK.mono (h:Ext S G w S' G' w'){es n:Nat}{o:SI}{a:Option Addr}{len cap:Nat}(hs:SlOK S G w es o n a len cap):SlOK S' G' w' es o n a len cap:=by
 obtain⟨h1,h2,h3,h4,h5,h6⟩:=hs;refine⟨h1,h2,h3,h4,h5,λp hp hc=>?_⟩;obtain⟨g1,g2,⟨ty,k,g3,g4⟩,g5⟩:=h6 p hp hc;refine⟨g1,g2,⟨ty,k,h.shape _ _ g3,g4⟩,?_⟩;cases ho:o.tok with
 | none =>
  rw[rd_none ho]at g5 ⊢;simp only[ho]at g5 ⊢;exact(h.st _ g5).1
 | some tl =>
  obtain⟨t,l⟩:=tl;have tlt:t<S.nt/\G.ln t=l:=by
   revert g5
   cases rd S o<;>simp only[ho]
   ·exact λg=>⟨g.1,g.2.1⟩
   ·exact λg=>g.2.2.2 t l rfl
   ·exact λg=>g t l rfl
  have tlt':t<S'.nt/\G'.ln t=l:=⟨Nat.lt_of_lt_of_le tlt.1 h.nt,by rw[h.ln t tlt.1];exact tlt.2⟩
  unfold rd at g5 ⊢;simp only[ho]at g5 ⊢;cases hm:lk S.mv t with
  | some m =>
   cases m with
   | bx b boff =>
    rw[h.mv t _ tlt.1 hm];simp only[hm]at g5 ⊢;refine⟨Nat.lt_of_lt_of_le g5.1 h.nb,by rw[h.β b g5.1];exact g5.2.1,g5.2.2.1,λt' l' e=>?_⟩;cases e;exact tlt'
  | none =>
   simp only[hm]at g5;cases hd:lk S.dl l with
   | some u =>
    simp only[hd]at g5;cases hm':lk S'.mv t with
    | some m =>
     cases m with
     | bx b boff =>
      have:=(h.moved t b boff tlt.1 hm hm').1;rw[tlt.2,hd]at this;cases this
    | none =>
     simp only[];cases hd':lk S'.dl l with
     | none=>rw[h.dl l hd']at hd;cases hd
     | some u'=>simp only[];intro t' l' e;cases e;exact tlt'
   | none =>
    simp only[hd]at g5;cases hm':lk S'.mv t with
    | some m =>
     cases m with
     | bx b boff =>
      obtain⟨_,e1,e2,e3⟩:=h.moved t b boff tlt.1 hm hm';simp only[];refine⟨e2,by rw[e1];exact g5.2.2.1.symm,by rw[e3,g5.2.2.2.1];omega,λt' l' e=>?_⟩;cases e;exact tlt'
    | none =>
     simp only[];cases hd':lk S'.dl l with
     | some u'=>simp only[];intro t' l' e;cases e;exact tlt'
     | none =>
      simp only[];have:=h.sea t tlt.1 hm' (by rw[tlt.2];exact hd');refine⟨tlt'.1,tlt'.2,by rw[h.τ t tlt.1];exact g5.2.2.1,g5.2.2.2.1,?_⟩;have:=this.1;rw[g5.2.2.1]at this;exact Nat.le_trans g5.2.2.2.2 this
theorem SlOK.tokLt {es n:Nat}{o:SI}{a:Option Addr}{len cap:Nat}(hs:SlOK S G w es o n a len cap){p:Addr}(hp:a=some p)(hc:0<cap):∀t l,o.tok=some (t,l)->t<S.nt:=by
 intro t l ho;obtain⟨_,_,_,h5⟩:=hs.2.2.2.2.2 p hp hc
 revert h5
 cases rd S o<;>simp only[ho]
 ·exact λg=>g.1
 ·exact λg=>(g.2.2.2 t l rfl).1
 ·exact λg=>(g t l rfl).1
theorem SlOK.cell (h:Ext S G w S' G' w'){es n:Nat}{o:SI}{p:Addr}{b len cap k:Nat}(hs:SlOK S G w es o n (some p) len cap)(hb:p.block=b)(hc:0<cap)(hrd:rd S' o=.here)
  (_hlo:p.off<=k) (hhi:k<p.off+len*es):w'.cell? ⟨b,k,none⟩=w.cell? ⟨b,k,none⟩:=by
 have hrd0:=rd_ext h hrd (SlOK.tokLt hs rfl hc);obtain⟨_,_,_,h5⟩:=hs.2.2.2.2.2 p rfl hc;rw[hrd0]at h5;subst hb;cases ho:o.tok with
 | none =>
  simp only[ho]at h5;simp only[World.cell?,(h.st _ h5).2]
 | some tl =>
  obtain⟨t,l⟩:=tl;simp only[ho]at h5;obtain⟨g1,g2,g3,g4,g5⟩:=h5;unfold rd at hrd;simp only[ho]at hrd;cases hm:lk S'.mv t with
  | some m=>cases m;simp[hm]at hrd
  | none =>
   simp only[hm]at hrd;cases hd:lk S'.dl l with
   | some u=>simp[hd]at hrd
   | none =>
    have:=(h.sea t g1 hm (by rw[g2];exact hd)).2 k (by rw[g3];omega);rw[g3]at this;exact this
mutual
theorem Rv.mono (h:Ext S G w S' G' w'):∀(x:AV) (v:Value),Rv S G w x v->Rv S' G' w' x v
 |.undef,_,hx |.bool _,_,hx |.int _ _,_,hx |.str _,_,hx |.nilp,_,hx |.gptr _ _,_,hx |.anyp,_,hx |.nilfn,_,hx |.nilif,_,hx |.nilmap,_,hx |.raw _,_,hx=>by
  simp only[Rv]at hx ⊢;exact hx
 |.ptr id off,_,hx=>by
  simp only[Rv]at hx ⊢;exact⟨Nat.lt_of_lt_of_le hx.1 h.nb,by rw[h.β id hx.1];exact hx.2⟩
 |.map id,_,hx=>by
  simp only[Rv]at hx ⊢;exact⟨Nat.lt_of_lt_of_le hx.1 h.nm,by rw[h.μ id hx.1];exact hx.2⟩
 |.eptr es o xs i off,_,hx=>by
  simp only[Rv]at hx ⊢;obtain⟨p,len,cap,hs,hr,hi,hv⟩:=hx;refine⟨p,len,cap,hs.mono h,λhrd=>?_,hi,hv⟩;have hc:0<cap:=by have:=hs.1;have:=hs.2.1;omega
  exact Rat.mono h es xs p.block p.off o p len cap xs.length hs rfl hc hrd (nR _) (by rw[hs.1];omega) (hr (rd_ext h hrd (SlOK.tokLt hs rfl hc)))
 |.sl es o xs,_,hx=>by
  simp only[Rv]at hx ⊢;obtain⟨a,len,cap,hv,hs,hr⟩:=hx;refine⟨a,len,cap,hv,hs.mono h,λhrd p hp=>?_⟩;by_cases hc:0<cap
  ·exact Rat.mono h es xs p.block p.off o p len cap xs.length (hp ▸ hs) rfl hc hrd (nR _) (by rw[hs.1];omega) (hr (rd_ext h hrd (SlOK.tokLt hs hp hc)) p hp)
  ·have:xs=[]:=by
    have h1:=hs.1;have h2:=hs.2.1
    exact List.length_eq_zero_iff.1 (by omega)
   subst this;simp only[Rat]
 |.fn f fs cs,_,hx=>by
  simp only[Rv]at hx ⊢;obtain⟨a,b,hv,h1,h2⟩:=hx;exact⟨a,b,hv,Rl.mono h fs a h1,Rl.mono h cs b h2⟩
 |.ifc t x,_,hx=>by
  simp only[Rv]at hx ⊢;obtain⟨u,hv,hu⟩:=hx;exact⟨u,hv,Rv.mono h x u hu⟩
 |.agg cs,_,hx=>by
  simp only[Rv]at hx ⊢;obtain⟨vs,hv,hu⟩:=hx;exact⟨vs,hv,Rl.mono h cs vs hu⟩
 |.tup cs,_,hx=>by
  simp only[Rv]at hx ⊢;obtain⟨vs,hv,hu⟩:=hx;exact⟨vs,hv,Rl.mono h cs vs hu⟩
theorem Rl.mono (h:Ext S G w S' G' w'):∀(xs:List AV) (vs:List Value),Rl S G w xs vs->Rl S' G' w' xs vs
 | [],_,hx=>by simp only[Rl]at hx ⊢;exact hx
 | x::xs,_,hx=>by
  simp only[Rl]at hx ⊢;obtain⟨v,r,hv,h1,h2⟩:=hx;exact⟨v,r,hv,Rv.mono h x v h1,Rl.mono h xs r h2⟩
theorem Rat.mono (h:Ext S G w S' G' w')(es:Nat):∀(xs:List AV) (b off:Nat) (o:SI) (p:Addr) (len cap n:Nat),SlOK S G w es o n (some p) len cap->p.block=b->0<cap->rd S' o=.here ->
  p.off<=off->off+xs.length*es<=p.off+len*es->Rat S G w b es xs off->Rat S' G' w' b es xs off
 | [],_,_,_,_,_,_,_,_,_,_,_,_,_,_=>by simp only[Rat]
 | x::xs,b,off,o,p,len,cap,n,hs,hb,hc,hrd,hlo,hhi,hx=>by
  simp only[Rat]at hx ⊢;obtain⟨⟨v,hv,hsz,hcell⟩,hr⟩:=hx;simp only[lC,Nat.add_mul,Nat.one_mul]at hhi;refine⟨⟨v,Rv.mono h x v hv,hsz,λj hj=>?_⟩,Rat.mono h es xs b (off+es) o p len cap n hs hb hc hrd (by omega) (by omega) hr⟩;rw[<-hcell j hj];exact SlOK.cell h hs hb hc hrd (by omega) (by omega)
end
end mono

theorem Ext.refl {S:St}{G:Gh}{w:World}:Ext S G w S G w where
 nb:=nR _
 nt:=nR _
 nm:=nR _
 β _ _:=rfl
 τ _ _:=rfl
 ln _ _:=rfl
 μ _ _:=rfl
 size:=nR _
 own _ _ h:=h
 st _ h:=⟨h,rfl⟩
 stNew _ _ h:=h
 shape _ _ h:=h
 mv _ _ _ h:=h
 dl _ h:=h
 sea _ _ _ _:=⟨nR _,λ_ _=>rfl⟩
 moved t b o _ h h':=by rw[h]at h';cases h'
 os:=rfl
 tape:=rfl
 output:=rfl
theorem Ext.trans {S:St}{G:Gh}{w:World}{S':St}{G':Gh}{w':World}{S'':St}{G'':Gh}{w'':World}(h:Ext S G w S' G' w')(k:Ext S' G' w' S'' G'' w''):Ext S G w S'' G'' w'' where
 nb:=Nat.le_trans h.nb k.nb
 nt:=Nat.le_trans h.nt k.nt
 nm:=Nat.le_trans h.nm k.nm
 β id hi:=by rw[k.β id (Nat.lt_of_lt_of_le hi h.nb),h.β id hi]
 τ id hi:=by rw[k.τ id (Nat.lt_of_lt_of_le hi h.nt),h.τ id hi]
 ln id hi:=by rw[k.ln id (Nat.lt_of_lt_of_le hi h.nt),h.ln id hi]
 μ id hi:=by rw[k.μ id (Nat.lt_of_lt_of_le hi h.nm),h.μ id hi]
 size:=Nat.le_trans h.size k.size
 own b hb ho:=h.own b hb (k.own b (Nat.lt_of_lt_of_le hb h.size) ho)
 st b hb:=⟨(k.st b (h.st b hb).1).1,by rw[(k.st b (h.st b hb).1).2,(h.st b hb).2]⟩
 stNew b hb hs:=h.stNew b hb (k.stNew b (Nat.lt_of_lt_of_le hb h.size) hs)
 shape b x hx:=k.shape b x (h.shape b x hx)
 mv t m ht hm:=k.mv t m (Nat.lt_of_lt_of_le ht h.nt) (h.mv t m ht hm)
 dl l hl:=h.dl l (k.dl l hl)
 sea t ht hm hd:=by
  have ht':=Nat.lt_of_lt_of_le ht h.nt;have hm':lk S'.mv t=none:=by
   cases e:lk S'.mv t with
   | none=>rfl
   | some m=>rw[k.mv t m ht' e]at hm;cases hm
  have a:=h.sea t ht hm' (k.dl _ hd);have b:=k.sea t ht' hm (by rw[h.ln t ht];exact hd);rw[h.τ t ht]at b;exact⟨Nat.le_trans a.1 b.1,λi hi=>by rw[b.2 i (Nat.lt_of_lt_of_le hi a.1),a.2 i hi]⟩
 moved t b o ht hm hm'':=by
  have ht':=Nat.lt_of_lt_of_le ht h.nt;cases e:lk S'.mv t with
  | some m =>
   have:=k.mv t m ht' e;rw[hm'']at this;cases this;obtain⟨h1,h2,h3,h4⟩:=h.moved t b o ht hm e;exact⟨h1,by rw[k.β b h3];exact h2,Nat.lt_of_lt_of_le h3 k.nb,h4⟩
  | none =>
   obtain⟨h1,h2,h3,h4⟩:=k.moved t b o ht' e hm'';rw[h.ln t ht]at h1;exact⟨h.dl _ h1,by rw[h2,h.τ t ht],h3,h4⟩
 os:=by rw[k.os,h.os]
 tape:=by rw[k.tape,h.tape]
 output:=by rw[k.output,h.output]
def RlE (S:St)(G:Gh)(w:World):List (AV×AV)->List MapEntry->Prop
 | [],es=>es=[]
 | (k,v)::r,es=>∃e es',es=e::es'/\Rv S G w k e.key/\Rv S G w v e.val/\RlE S G w r es'
theorem RlE.mono {S:St}{G:Gh}{w:World}{S':St}{G':Gh}{w':World}(h:Ext S G w S' G' w'):∀(r:List (AV×AV)) (es:List MapEntry),RlE S G w r es->RlE S' G' w' r es
 | [],_,hx=>hx
 | (k,v)::r,_,hx=>by
  obtain⟨e,es',he,h1,h2,h3⟩:=hx;exact⟨e,es',he,h1.mono h,h2.mono h,RlE.mono h r es' h3⟩
def Vld (S:St)(G:Gh)(t:Nat):Prop:=lk S.mv t=none/\lk S.dl (G.ln t)=none
def okFr (fr:Nat×Nat)(k:Nat)(sf:Bool):Prop:=fr.1=fr.2\/(sf=true/\fr=(k,k+1))
theorem okFr.free {fr:Nat×Nat}{k:Nat}{sf:Bool}(h:okFr fr k sf){i:Nat}(hi:i<k):(decide (fr.1<=i) && decide (i<fr.2))=false:=by
 rcases h with h | ⟨_,h⟩
 ·rw[h];simp only[Bool.and_eq_false_iff,decide_eq_false_iff_not];omega
 ·subst h;simp;omega
def Born (l:List MapEntry)(clk:Nat):Prop:=clk=l.length/\∀(i:Nat) (e:MapEntry),l[i]? = some e->e.born=i
def RlM (S:St)(G:Gh)(w:World)(es:List (AV×AV))(ents:Array MapEntry)(clk:Nat):Prop:=RlE S G w es ents.toList/\Born ents.toList clk
theorem RlM.mono {S:St}{G:Gh}{w:World}{S':St}{G':Gh}{w':World}(h:Ext S G w S' G' w'){r:List (AV×AV)}{es:Array MapEntry}{clk:Nat}(hx:RlM S G w r es clk):RlM S' G' w' r es clk:=⟨RlE.mono h _ _ hx.1,hx.2⟩
structure Inv (P:Program)(gt:GT)(S:St)(G:Gh)(w:World):Prop where
 boxLt:∀id,id<S.nb->G.β id<w.heap.size
 tokLt:∀t,t<S.nt->G.τ t<w.heap.size
 mapLt:∀id,id<S.nm->G.μ id<w.heap.size
 stLt:∀b,G.st b->b<w.heap.size
 stOwn:∀b,G.st b->¬Own S G b
 box:∀id ty cs,lk S.boxes id=some (some (ty,cs))->id<S.nb/\∃c fr sf pre rest,w.heap[G.β id]? = some (.cells c ty fr)/\okFr fr c.size sf/\c.toList=pre++rest/\Rl S G w cs pre
 boxInj:∀id id' x x',lk S.boxes id=some (some x)->lk S.boxes id'=some (some x')->id≠id'->G.β id≠G.β id'
 boxTok:∀id x t,lk S.boxes id=some (some x)->t<S.nt->Vld S G t->G.τ t≠G.β id
 map:∀id,id<S.nm->∃es ents clk,lk S.maps id=some es/\w.heap[G.μ id]? = some (.map ents clk)/\RlM S G w es ents clk
 mapInj:∀id id',id<S.nm->id'<S.nm->id≠id'->G.μ id≠G.μ id'
 tip:∀t n ty sf,lk S.tip t=some (some (n,ty,sf))->t<S.nt/\(Vld S G t->∃es c fr,sizeP P ty=some es/\w.heap[G.τ t]? = some (.cells c ty fr)/\G.sz (G.τ t)=n*es/\n*es<=c.size/\okFr fr c.size sf)
 tipInj:∀t t' x x',lk S.tip t=some (some x)->lk S.tip t'=some (some x')->t≠t'->Vld S G t->Vld S G t'->G.τ t≠G.τ t'
 line:∀t t',t<S.nt->t'<S.nt->Vld S G t->Vld S G t'->G.τ t=G.τ t'->G.ln t=G.ln t'
 lnLt:∀t,t<S.nt->G.ln t<S.nt
 kBox:∀id,S.nb<=id->lk S.boxes id=none
 kMap:∀id,S.nm<=id->lk S.maps id=none
 kMv:∀t,S.nt<=t->lk S.mv t=none
 kTip:∀t,S.nt<=t->lk S.tip t=none
 kDl:∀l,S.nt<=l->lk S.dl l=none
 glob:∀g cs,lk gt g=some cs->G.st g/\∃c ty fr,w.heap[g]? = some (.cells c ty fr)/\Rl S G w cs c.toList
structure Gr (w w':World):Prop where
 os:w'.os=w.os
 tape:w'.tape=w.tape
 output:w'.output=w.output
 size:w.heap.size<=w'.heap.size
 same:∀b,b<w.heap.size->w'.heap[b]? = w.heap[b]?
theorem Gr.refl (w:World):Gr w w:=⟨rfl,rfl,rfl,nR _,λ_ _=>rfl⟩
theorem Gr.trans {a b c:World}(h:Gr a b)(k:Gr b c):Gr a c :=
 ⟨by rw[k.os,h.os],by rw[k.tape,h.tape],by rw[k.output,h.output],Nat.le_trans h.size k.size,λi hi=>by rw[k.same i (Nat.lt_of_lt_of_le hi h.size),h.same i hi]⟩
theorem Gr.push (w:World)(o:Obj):Gr w { w with heap:=w.heap.push o } :=
 ⟨rfl,rfl,rfl,by simp,λb hb=>by simp[Array.getElem?_push,Nat.ne_of_lt hb]⟩
theorem Gr.drew (w:World)(n:Nat):Gr w { w with drawn:=n }:=⟨rfl,rfl,rfl,nR _,λ_ _=>rfl⟩
theorem lt_of_some {w:World}{b:Nat}{o:Obj}(h:w.heap[b]? = some o):b<w.heap.size:=by
 rcases Nat.lt_or_ge b w.heap.size with h' | h'
 ·exact h'
 ·rw[Array.getElem?_eq_none h']at h;cases h
theorem shape_lt {w:World}{b:Nat}{x:TypeId×Nat}(h:w.shape? b=some x):b<w.heap.size:=by
 rcases Nat.lt_or_ge b w.heap.size with h' | h'
 ·exact h'
 ·simp[World.shape?,Array.getElem?_eq_none h']at h
section
variable {P:Program}{gt:GT}{S:St}{G:Gh}{w w':World}
theorem Ext.of_gr (hI:Inv P gt S G w)(h:Gr w w'):Ext S G w S G w' where
 nb:=nR _
 nt:=nR _
 nm:=nR _
 β _ _:=rfl
 τ _ _:=rfl
 ln _ _:=rfl
 μ _ _:=rfl
 size:=h.size
 own _ _ h:=h
 st b hb:=⟨hb,h.same b (hI.stLt b hb)⟩
 stNew _ _ h:=h
 shape b x hx:=by simpa[World.shape?,h.same b (shape_lt hx)] using hx
 mv _ _ _ h:=h
 dl _ h:=h
 sea t ht _ _:=⟨nR _,λi _=>by simp only[World.cell?,h.same _ (hI.tokLt t ht)]⟩
 moved t b o _ h h':=by rw[h]at h';cases h'
 os:=h.os
 tape:=h.tape
 output:=h.output
theorem Inv.gr (hI:Inv P gt S G w)(h:Gr w w'):Inv P gt S G w' where
 boxLt id hi:=Nat.lt_of_lt_of_le (hI.boxLt id hi) h.size
 tokLt id hi:=Nat.lt_of_lt_of_le (hI.tokLt id hi) h.size
 mapLt id hi:=Nat.lt_of_lt_of_le (hI.mapLt id hi) h.size
 stLt id hi:=Nat.lt_of_lt_of_le (hI.stLt id hi) h.size
 stOwn:=hI.stOwn
 box id ty cs hb:=by
  obtain⟨h1,c,fr,sf,pre,rest,h2,h3,h4,h5⟩:=hI.box id ty cs hb;exact⟨h1,c,fr,sf,pre,rest,by rw[h.same _ (hI.boxLt id h1)];exact h2,h3,h4,h5.mono (Ext.of_gr hI h)⟩
 boxInj:=hI.boxInj
 boxTok:=hI.boxTok
 map id hi:=by
  obtain⟨es,ents,clk,h1,h2,h3⟩:=hI.map id hi;exact⟨es,ents,clk,h1,by rw[h.same _ (hI.mapLt id hi)];exact h2,h3.mono (Ext.of_gr hI h)⟩
 mapInj:=hI.mapInj
 tip t n ty sf ht:=by
  obtain⟨h1,h2⟩:=hI.tip t n ty sf ht;refine⟨h1,λhv=>?_⟩;obtain⟨es,c,fr,e1,e2,e3⟩:=h2 hv;exact⟨es,c,fr,e1,by rw[h.same _ (hI.tokLt t h1)];exact e2,e3⟩
 tipInj:=hI.tipInj
 line:=hI.line
 lnLt:=hI.lnLt
 kBox:=hI.kBox
 kMap:=hI.kMap
 kMv:=hI.kMv
 kTip:=hI.kTip
 kDl:=hI.kDl
 glob g cs hg:=by
  obtain⟨h1,c,ty,fr,h2,h3⟩:=hI.glob g cs hg;exact⟨h1,c,ty,fr,by rw[h.same _ (hI.stLt g h1)];exact h2,h3.mono (Ext.of_gr hI h)⟩
end
def Keep (B:Nat)(S:St)(G:Gh)(w w':World):Prop:=∀b,b<B->¬Own S G b->w'.heap[b]? = w.heap[b]?
structure Tr (P:Program)(gt:GT)(S:St)(G:Gh)(w:World)(S':St)(G':Gh)(w':World):Prop where
 inv:Inv P gt S' G' w'
 ext:Ext S G w S' G' w'
 keep:Keep w.heap.size S G w w'
theorem Tr.refl {P:Program}{gt:GT}{S:St}{G:Gh}{w:World}(h:Inv P gt S G w):Tr P gt S G w S G w:=⟨h,Ext.refl,λ_ _ _=>rfl⟩
theorem Tr.gr {P:Program}{gt:GT}{S:St}{G:Gh}{w w':World}(h:Inv P gt S G w)(g:Gr w w'):Tr P gt S G w S G w':=⟨h.gr g,Ext.of_gr h g,λb hb _=>g.same b hb⟩
theorem Tr.trans {P:Program}{gt:GT}{S:St}{G:Gh}{w:World}{S':St}{G':Gh}{w':World}{S'':St}{G'':Gh}{w'':World}(h:Tr P gt S G w S' G' w')(k:Tr P gt S' G' w' S'' G'' w''):Tr P gt S G w S'' G'' w'' :=
 ⟨k.inv,h.ext.trans k.ext,λb hb ho=>by rw[k.keep b (Nat.lt_of_lt_of_le hb h.ext.size) (λo=>ho (h.ext.own b hb o)),h.keep b hb ho]⟩

def upd {α:Type} (f:Nat→α) (k:Nat) (v:α):Nat→α:=fun x=>if x=k then v else f x
theorem upd_same {α:Type} (f:Nat→α) (k:Nat) (v:α):upd f k v k=v:=by simp [upd]
theorem upd_ne {α:Type} (f:Nat→α) {k x:Nat} (v:α) (h:x≠k):upd f k v x=f x:=by simp [upd,h]
theorem lk_cons {α:Type} (k:Nat) (v:α) (r:List (Nat×α)) (n:Nat):lk ((k,v)::r) n=if k=n then some v else lk r n:=by
  simp only [lk]
  by_cases h:k=n
  · subst h;simp
  · have:Nat.beq k n=false:=by
      cases hb:Nat.beq k n
      · rfl
      · exact absurd (bE hb) h
    simp [h,this]
theorem lk_same {α:Type} (k:Nat) (v:α) (r:List (Nat×α)):lk ((k,v)::r) k=some v:=by simp [lk_cons]
theorem lk_ne {α:Type} {k n:Nat} (v:α) (r:List (Nat×α)) (h:k≠n):lk ((k,v)::r) n=lk r n:=by simp [lk_cons,h]
section
variable {P:Program} {gt:GT} {S:St} {G:Gh} {w:World}
theorem Tr.newBox (hI:Inv P gt S G w) {cs:List AV} {c:Array Value} (ty:TypeId) (hc:Rl S G w cs c.toList) :
    Tr P gt S G w { S with nb:=S.nb+1,boxes:=(S.nb,some (ty,cs))::S.boxes } { G with β:=upd G.β S.nb w.heap.size } { w with heap:=w.heap.push (.cells c ty (0,0)) }:=by
  have hg:=Gr.push w (.cells c ty (0,0))
  have hown:∀b,b<w.heap.size→Own { S with nb:=S.nb+1,boxes:=(S.nb,some (ty,cs))::S.boxes } { G with β:=upd G.β S.nb w.heap.size } b→Own S G b:=by
    rintro b hb (⟨id,hi,he⟩ | h)
    · by_cases e:id=S.nb
      · subst e;simp only [upd_same] at he;omega
      · simp only [upd_ne _ _ e] at he;exact .inl ⟨id,by simp at hi;omega,he⟩
    · exact .inr h
  have hext:Ext S G w { S with nb:=S.nb+1,boxes:=(S.nb,some (ty,cs))::S.boxes } { G with β:=upd G.β S.nb w.heap.size } { w with heap:=w.heap.push (.cells c ty (0,0)) } :=
    { Ext.of_gr hI hg with
      nb:=Nat.le_succ _
      β:=fun id hi=>upd_ne _ _ (by omega)
      own:=hown
      moved:=fun t b o _ h h'=>by rw [h] at h';cases h' }
  refine⟨?_,hext,fun b hb _=>hg.same b hb⟩
  have hI':=hI.gr hg
  exact
    { boxLt:=fun id hi=>by
        by_cases e:id=S.nb
        · subst e;simp [upd_same]
        · simp only [upd_ne _ _ e];exact hI'.boxLt id (by simp at hi;omega)
      tokLt:=hI'.tokLt
      mapLt:=hI'.mapLt
      stLt:=hI'.stLt
      stOwn:=fun b hb ho=>hI.stOwn b hb (hown b (hI.stLt b hb) ho)
      box:=fun id ty' cs' h=>by
        by_cases e:S.nb=id
        · subst e
          rw [lk_same] at h
          cases h
          exact⟨Nat.lt_succ_self _,c,(0,0),false,c.toList,[],by simp [upd_same],.inl rfl,by simp,hc.mono hext⟩
        · rw [lk_ne _ _ e] at h
          obtain⟨h1,c',fr,sf,pre,rest,h2,h3,h4,h5⟩:=hI.box id ty' cs' h
          refine⟨Nat.lt_succ_of_lt h1,c',fr,sf,pre,rest,?_,h3,h4,h5.mono hext⟩
          simp only [upd_ne _ _ (Ne.symm e)]
          rw [hg.same _ (hI.boxLt id h1)];exact h2
      boxInj:=fun id id' x x' h h' hne=>by
        have old:∀i y,S.nb≠i→lk ((S.nb,some (ty,cs))::S.boxes) i=some (some y)→G.β i<w.heap.size:=fun i y e hh=>by
          rw [lk_ne _ _ e] at hh;exact hI.boxLt i (hI.box i y.1 y.2 hh).1
        by_cases e:S.nb=id
        · have e':S.nb≠id':=fun q=>hne (e.symm.trans q)
          have:=old id' x' e' h'
          subst e;simp only [upd_same,upd_ne _ _ (Ne.symm e')];omega
        · by_cases e':S.nb=id'
          · have:=old id x e h
            subst e';simp only [upd_same,upd_ne _ _ (Ne.symm e)];omega
          · simp only [upd_ne _ _ (Ne.symm e),upd_ne _ _ (Ne.symm e')]
            rw [lk_ne _ _ e] at h;rw [lk_ne _ _ e'] at h'
            exact hI.boxInj id id' x x' h h' hne
      boxTok:=fun id x t h ht hv=>by
        by_cases e:S.nb=id
        · subst e;simp only [upd_same];have:=hI.tokLt t ht;omega
        · simp only [upd_ne _ _ (Ne.symm e)]
          rw [lk_ne _ _ e] at h
          exact hI.boxTok id x t h ht hv
      map:=fun id hi=>by
        obtain⟨es,ents,clk,h1,h2,h3⟩:=hI.map id hi
        exact⟨es,ents,clk,h1,by rw [hg.same _ (hI.mapLt id hi)];exact h2,h3.mono hext⟩
      mapInj:=hI.mapInj
      tip:=hI'.tip
      tipInj:=hI.tipInj
      line:=hI.line
      lnLt:=hI.lnLt
      kBox:=fun id hi=>by
        rw [lk_ne _ _ (by simp at hi;omega)];exact hI.kBox id (by simp at hi;omega)
      kMap:=hI.kMap
      kMv:=hI.kMv
      kTip:=hI.kTip
      kDl:=hI.kDl
      glob:=fun g cs hgl=>by
        obtain⟨h1,c,ty,fr,h2,h3⟩:=hI.glob g cs hgl
        exact⟨h1,c,ty,fr,by rw [hg.same _ (hI.stLt g h1)];exact h2,h3.mono hext⟩ }
theorem Tr.newSt (hI:Inv P gt S G w) (c:Array Value) (ty:TypeId) :
    Tr P gt S G w S { G with st:=fun b=>G.st b∨b=w.heap.size } { w with heap:=w.heap.push (.cells c ty (0,0)) }:=by
  have hg:=Gr.push w (.cells c ty (0,0))
  have hnew:¬Own S G w.heap.size:=by
    rintro (⟨id,hi,he⟩ | ⟨id,hi,he⟩ | ⟨id,hi,he⟩)
    · have:=hI.boxLt id hi;omega
    · have:=hI.tokLt id hi;omega
    · have:=hI.mapLt id hi;omega
  have hext:Ext S G w S { G with st:=fun b=>G.st b∨b=w.heap.size } { w with heap:=w.heap.push (.cells c ty (0,0)) } :=
    { Ext.of_gr hI hg with
      st:=fun b hb=>⟨.inl hb,hg.same b (hI.stLt b hb)⟩
      stNew:=fun b hb h=>h.elim id fun e=>by omega
      moved:=fun t b o _ h h'=>by rw [h] at h';cases h' }
  refine⟨?_,hext,fun b hb _=>hg.same b hb⟩
  have hI':=hI.gr hg
  exact
    { boxLt:=hI'.boxLt
      tokLt:=hI'.tokLt
      mapLt:=hI'.mapLt
      stLt:=fun b hb=>hb.elim (hI'.stLt b) fun e=>by simp [e]
      stOwn:=fun b hb=>hb.elim (hI.stOwn b) fun e=>e ▸ hnew
      box:=fun id ty' cs' h=>by
        obtain⟨h1,c',fr,sf,pre,rest,h2,h3,h4,h5⟩:=hI.box id ty' cs' h
        exact⟨h1,c',fr,sf,pre,rest,by rw [hg.same _ (hI.boxLt id h1)];exact h2,h3,h4,h5.mono hext⟩
      boxInj:=hI.boxInj
      boxTok:=hI.boxTok
      map:=fun id hi=>by
        obtain⟨es,ents,clk,h1,h2,h3⟩:=hI.map id hi
        exact⟨es,ents,clk,h1,by rw [hg.same _ (hI.mapLt id hi)];exact h2,h3.mono hext⟩
      mapInj:=hI.mapInj
      tip:=hI'.tip
      tipInj:=hI.tipInj
      line:=hI.line
      lnLt:=hI.lnLt
      kBox:=hI.kBox
      kMap:=hI.kMap
      kMv:=hI.kMv
      kTip:=hI.kTip
      kDl:=hI.kDl
      glob:=fun g cs hgl=>by
        obtain⟨h1,c,ty,fr,h2,h3⟩:=hI.glob g cs hgl
        exact⟨.inl h1,c,ty,fr,by rw [hg.same _ (hI.stLt g h1)];exact h2,h3.mono hext⟩ }
theorem Tr.newMap (hI:Inv P gt S G w) :
    Tr P gt S G w { S with nm:=S.nm+1,maps:=(S.nm,[])::S.maps } { G with μ:=upd G.μ S.nm w.heap.size } { w with heap:=w.heap.push (.map #[] 0) }:=by
  have hg:=Gr.push w (.map #[] 0)
  have hown:∀b,b<w.heap.size→Own { S with nm:=S.nm+1,maps:=(S.nm,[])::S.maps } { G with μ:=upd G.μ S.nm w.heap.size } b→Own S G b:=by
    rintro b hb (h | h | ⟨id,hi,he⟩)
    · exact .inl h
    · exact .inr (.inl h)
    · by_cases e:id=S.nm
      · subst e;simp only [upd_same] at he;omega
      · simp only [upd_ne _ _ e] at he;exact .inr (.inr ⟨id,by simp at hi;omega,he⟩)
  have hext:Ext S G w { S with nm:=S.nm+1,maps:=(S.nm,[])::S.maps } { G with μ:=upd G.μ S.nm w.heap.size } { w with heap:=w.heap.push (.map #[] 0) } :=
    { Ext.of_gr hI hg with
      nm:=Nat.le_succ _
      μ:=fun id hi=>upd_ne _ _ (by omega)
      own:=hown
      moved:=fun t b o _ h h'=>by rw [h] at h';cases h' }
  refine⟨?_,hext,fun b hb _=>hg.same b hb⟩
  have hI':=hI.gr hg
  exact
    { boxLt:=hI'.boxLt
      tokLt:=hI'.tokLt
      mapLt:=fun id hi=>by
        by_cases e:id=S.nm
        · subst e;simp [upd_same]
        · simp only [upd_ne _ _ e];exact hI'.mapLt id (by simp at hi;omega)
      stLt:=hI'.stLt
      stOwn:=fun b hb ho=>hI.stOwn b hb (hown b (hI.stLt b hb) ho)
      box:=fun id ty' cs' h=>by
        obtain⟨h1,c',fr,sf,pre,rest,h2,h3,h4,h5⟩:=hI.box id ty' cs' h
        exact⟨h1,c',fr,sf,pre,rest,by rw [hg.same _ (hI.boxLt id h1)];exact h2,h3,h4,h5.mono hext⟩
      boxInj:=hI.boxInj
      boxTok:=hI.boxTok
      map:=fun id hi=>by
        by_cases e:S.nm=id
        · subst e
          exact⟨[],#[],0,lk_same _ _ _,by simp [upd_same],by simp [RlE,RlM,Born]⟩
        · obtain⟨es,ents,clk,h1,h2,h3⟩:=hI.map id (by simp at hi;omega)
          exact⟨es,ents,clk,by rw [lk_ne _ _ e];exact h1,by simp only [upd_ne _ _ (Ne.symm e)];rw [hg.same _ (hI.mapLt id (by simp at hi;omega))];exact h2,h3.mono hext⟩
      mapInj:=fun id id' hi hi' hne=>by
        by_cases e:S.nm=id
        · have e':S.nm≠id':=fun q=>hne (e.symm.trans q)
          have:=hI.mapLt id' (by simp at hi';omega)
          subst e;simp only [upd_same,upd_ne _ _ (Ne.symm e')];omega
        · by_cases e':S.nm=id'
          · have:=hI.mapLt id (by simp at hi;omega)
            subst e';simp only [upd_same,upd_ne _ _ (Ne.symm e)];omega
          · simp only [upd_ne _ _ (Ne.symm e),upd_ne _ _ (Ne.symm e')]
            exact hI.mapInj id id' (by simp at hi;omega) (by simp at hi';omega) hne
      tip:=hI'.tip
      tipInj:=hI.tipInj
      line:=hI.line
      lnLt:=hI.lnLt
      kBox:=hI.kBox
      kMap:=fun id hi=>by
        rw [lk_ne _ _ (by simp at hi;omega)];exact hI.kMap id (by simp at hi;omega)
      kMv:=hI.kMv
      kTip:=hI.kTip
      kDl:=hI.kDl
      glob:=fun g cs hgl=>by
        obtain⟨h1,c,ty,fr,h2,h3⟩:=hI.glob g cs hgl
        exact⟨h1,c,ty,fr,by rw [hg.same _ (hI.stLt g h1)];exact h2,h3.mono hext⟩ }
theorem Tr.newTok (hI:Inv P gt S G w) {n es:Nat} {ty:TypeId} {sf:Bool} {c:Array Value} {fr:Nat×Nat} {l:Nat} {tip':List (Nat×Option (Nat×TypeId×Bool))}
    (he:sizeP P ty=some es) (hn:n*es≤c.size) (hf:okFr fr c.size sf) (hl:l<S.nt+1) (ht':∀t y,lk tip' t=some (some y)→lk S.tip t=some (some y)) (hk:∀t,S.nt+1≤t→lk tip' t=none) :
    Tr P gt S G w { S with nt:=S.nt+1,tip:=(S.nt,some (n,ty,sf))::tip' } { G with τ:=upd G.τ S.nt w.heap.size,ln:=upd G.ln S.nt l,sz:=upd G.sz w.heap.size (n*es) } { w with heap:=w.heap.push (.cells c ty fr) }:=by
  have hg:=Gr.push w (.cells c ty fr)
  have hτ:∀t,t<S.nt→upd G.τ S.nt w.heap.size t=G.τ t:=fun t ht=>upd_ne _ _ (by omega)
  have hln:∀t,t<S.nt→upd G.ln S.nt l t=G.ln t:=fun t ht=>upd_ne _ _ (by omega)
  have hsz:∀t,t<S.nt→upd G.sz w.heap.size (n*es) (G.τ t)=G.sz (G.τ t):=fun t ht=>upd_ne _ _ (by have:=hI.tokLt t ht;omega)
  have hown:∀b,b<w.heap.size→Own { S with nt:=S.nt+1,tip:=(S.nt,some (n,ty,sf))::tip' } { G with τ:=upd G.τ S.nt w.heap.size,ln:=upd G.ln S.nt l,sz:=upd G.sz w.heap.size (n*es) } b→Own S G b:=by
    rintro b hb (h | ⟨t,hi,he⟩ | h)
    · exact .inl h
    · by_cases e:t=S.nt
      · subst e;simp only [upd_same] at he;omega
      · simp only [upd_ne _ _ e] at he;exact .inr (.inl ⟨t,by simp at hi;omega,he⟩)
    · exact .inr (.inr h)
  have hext:Ext S G w { S with nt:=S.nt+1,tip:=(S.nt,some (n,ty,sf))::tip' } { G with τ:=upd G.τ S.nt w.heap.size,ln:=upd G.ln S.nt l,sz:=upd G.sz w.heap.size (n*es) } { w with heap:=w.heap.push (.cells c ty fr) } :=
    { Ext.of_gr hI hg with
      nt:=Nat.le_succ _
      τ:=hτ
      ln:=hln
      own:=hown
      sea:=fun t ht hm hd=>⟨Nat.le_of_eq (hsz t ht).symm,((Ext.of_gr hI hg).sea t ht hm hd).2⟩
      moved:=fun t b o _ h h'=>by rw [h] at h';cases h' }
  have hvld:∀t,t<S.nt→Vld { S with nt:=S.nt+1,tip:=(S.nt,some (n,ty,sf))::tip' } { G with τ:=upd G.τ S.nt w.heap.size,ln:=upd G.ln S.nt l,sz:=upd G.sz w.heap.size (n*es) } t→Vld S G t:=fun t ht h=>by
    unfold Vld at h ⊢;simp only [hln t ht] at h;exact h
  refine⟨?_,hext,fun b hb _=>hg.same b hb⟩
  have hI':=hI.gr hg
  exact
    { boxLt:=hI'.boxLt
      tokLt:=fun t hi=>by
        by_cases e:t=S.nt
        · subst e;simp [upd_same]
        · simp only [upd_ne _ _ e];exact hI'.tokLt t (by simp at hi;omega)
      mapLt:=hI'.mapLt
      stLt:=hI'.stLt
      stOwn:=fun b hb ho=>hI.stOwn b hb (hown b (hI.stLt b hb) ho)
      box:=fun id ty' cs' h=>by
        obtain⟨h1,c',fr,sf,pre,rest,h2,h3,h4,h5⟩:=hI.box id ty' cs' h
        exact⟨h1,c',fr,sf,pre,rest,by rw [hg.same _ (hI.boxLt id h1)];exact h2,h3,h4,h5.mono hext⟩
      boxInj:=hI.boxInj
      boxTok:=fun id x t h ht hv=>by
        by_cases e:t=S.nt
        · subst e;simp only [upd_same];have:=hI.boxLt id (hI.box id x.1 x.2 h).1;omega
        · have ht2:t<S.nt:=by simp at ht;omega
          simp only [hτ t ht2]
          exact hI.boxTok id x t h ht2 (hvld t ht2 hv)
      map:=fun id hi=>by
        obtain⟨es,ents,clk,h1,h2,h3⟩:=hI.map id hi
        exact⟨es,ents,clk,h1,by rw [hg.same _ (hI.mapLt id hi)];exact h2,h3.mono hext⟩
      mapInj:=hI.mapInj
      tip:=fun t n' ty' sf' h=>by
        by_cases e:S.nt=t
        · subst e
          rw [lk_same] at h
          cases h
          refine⟨Nat.lt_succ_self _,fun _=>⟨es,c,fr,he,by simp [upd_same],by simp [upd_same],hn,hf⟩⟩
        · rw [lk_ne _ _ e] at h
          obtain⟨h1,h2⟩:=hI.tip t n' ty' sf' (ht' t _ h)
          refine⟨Nat.lt_succ_of_lt h1,fun hv=>?_⟩
          obtain⟨es',c',fr',e1,e2,e3,e4,e5⟩:=h2 (hvld t h1 hv)
          refine⟨es',c',fr',e1,?_,?_,e4,e5⟩
          · simp only [hτ t h1];rw [hg.same _ (hI.tokLt t h1)];exact e2
          · simp only [hτ t h1,hsz t h1];exact e3
      tipInj:=fun t t' x x' h h' hne hv hv'=>by
        have old:∀i y,S.nt≠i→lk ((S.nt,some (n,ty,sf))::tip') i=some (some y)→i<S.nt:=fun i y e hh=>by
          rw [lk_ne _ _ e] at hh;exact (hI.tip i y.1 y.2.1 y.2.2 (ht' i _ hh)).1
        by_cases e:S.nt=t
        · have e':S.nt≠t':=fun q=>hne (e.symm.trans q)
          have:=hI.tokLt t' (old t' x' e' h')
          subst e;simp only [upd_same,upd_ne _ _ (Ne.symm e')];omega
        · by_cases e':S.nt=t'
          · have:=hI.tokLt t (old t x e h)
            subst e';simp only [upd_same,upd_ne _ _ (Ne.symm e)];omega
          · have a:=old t x e h
            have a':=old t' x' e' h'
            simp only [upd_ne _ _ (Ne.symm e),upd_ne _ _ (Ne.symm e')]
            rw [lk_ne _ _ e] at h;rw [lk_ne _ _ e'] at h'
            exact hI.tipInj t t' x x' (ht' t _ h) (ht' t' _ h') hne (hvld t a hv) (hvld t' a' hv')
      line:=fun t t' hi hi' hv hv' heq=>by
        by_cases e:t=S.nt
        · by_cases e':t'=S.nt
          · subst e;subst e';rfl
          · have:=hI.tokLt t' (by simp at hi';omega)
            subst e;simp only [upd_same,upd_ne _ _ e'] at heq;omega
        · by_cases e':t'=S.nt
          · have:=hI.tokLt t (by simp at hi;omega)
            subst e';simp only [upd_same,upd_ne _ _ e] at heq;omega
          · have a:t<S.nt:=by simp at hi;omega
            have a':t'<S.nt:=by simp at hi';omega
            simp only [upd_ne _ _ e,upd_ne _ _ e'] at heq ⊢
            exact hI.line t t' a a' (hvld t a hv) (hvld t' a' hv') heq
      lnLt:=fun t hi=>by
        by_cases e:t=S.nt
        · subst e;simp only [upd_same];exact hl
        · simp only [upd_ne _ _ e];have:=hI.lnLt t (by simp at hi;omega);simp;omega
      kBox:=hI.kBox
      kMap:=hI.kMap
      kMv:=fun t ht=>hI.kMv t (by simp at ht;omega)
      kTip:=fun t ht=>by rw [lk_ne _ _ (by simp at ht;omega)];exact hk t ht
      kDl:=fun t ht=>hI.kDl t (by simp at ht;omega)
      glob:=fun g cs hgl=>by
        obtain⟨h1,c,ty,fr,h2,h3⟩:=hI.glob g cs hgl
        exact⟨h1,c,ty,fr,by rw [hg.same _ (hI.stLt g h1)];exact h2,h3.mono hext⟩ }
theorem Tr.newMoved (hI:Inv P gt S G w) {id:Nat} (off:Nat) (hid:id<S.nb) :
    Tr P gt S G w { S with nt:=S.nt+1,tip:=(S.nt,none)::S.tip,mv:=(S.nt,.bx id off)::S.mv } { G with τ:=upd G.τ S.nt (G.β id),ln:=upd G.ln S.nt S.nt } w:=by
  have hτ:∀t,t<S.nt→upd G.τ S.nt (G.β id) t=G.τ t:=fun t ht=>upd_ne _ _ (by omega)
  have hln:∀t,t<S.nt→upd G.ln S.nt S.nt t=G.ln t:=fun t ht=>upd_ne _ _ (by omega)
  have hown:∀b,b<w.heap.size→Own { S with nt:=S.nt+1,tip:=(S.nt,none)::S.tip,mv:=(S.nt,.bx id off)::S.mv } { G with τ:=upd G.τ S.nt (G.β id),ln:=upd G.ln S.nt S.nt } b→Own S G b:=by
    rintro b hb (h | ⟨t,hi,he⟩ | h)
    · exact .inl h
    · by_cases e:t=S.nt
      · subst e;simp only [upd_same] at he;exact .inl ⟨id,hid,he⟩
      · simp only [upd_ne _ _ e] at he;exact .inr (.inl ⟨t,by simp at hi;omega,he⟩)
    · exact .inr (.inr h)
  have hext:Ext S G w { S with nt:=S.nt+1,tip:=(S.nt,none)::S.tip,mv:=(S.nt,.bx id off)::S.mv } { G with τ:=upd G.τ S.nt (G.β id),ln:=upd G.ln S.nt S.nt } w :=
    { (Ext.refl:Ext S G w S G w) with
      nt:=Nat.le_succ _
      τ:=hτ
      ln:=hln
      own:=hown
      mv:=fun t m ht hm=>by rw [lk_ne _ _ (by omega)];exact hm
      sea:=fun t ht hm hd=>⟨nR _,fun _ _=>rfl⟩
      moved:=fun t b o ht h h'=>by rw [lk_ne _ _ (by omega),h] at h';cases h' }
  have hvld:∀t,t<S.nt+1→Vld { S with nt:=S.nt+1,tip:=(S.nt,none)::S.tip,mv:=(S.nt,.bx id off)::S.mv } { G with τ:=upd G.τ S.nt (G.β id),ln:=upd G.ln S.nt S.nt } t→t<S.nt∧Vld S G t:=fun t ht h=>by
    unfold Vld at h ⊢
    by_cases e:S.nt=t
    · subst e;rw [lk_same] at h;cases h.1
    · have ht2:t<S.nt:=by omega
      rw [lk_ne _ _ e] at h;simp only [hln t ht2] at h;exact⟨ht2,h⟩
  refine⟨?_,hext,fun b hb _=>rfl⟩
  exact
    { boxLt:=hI.boxLt
      tokLt:=fun t hi=>by
        by_cases e:t=S.nt
        · subst e;simp only [upd_same];exact hI.boxLt id hid
        · simp only [upd_ne _ _ e];exact hI.tokLt t (by simp at hi;omega)
      mapLt:=hI.mapLt
      stLt:=hI.stLt
      stOwn:=fun b hb ho=>hI.stOwn b hb (hown b (hI.stLt b hb) ho)
      box:=fun id ty' cs' h=>by
        obtain⟨h1,c',fr,sf,pre,rest,h2,h3,h4,h5⟩:=hI.box id ty' cs' h
        exact⟨h1,c',fr,sf,pre,rest,h2,h3,h4,h5.mono hext⟩
      boxInj:=hI.boxInj
      boxTok:=fun id x t h ht hv=>by
        obtain⟨a,b⟩:=hvld t ht hv
        simp only [hτ t a]
        exact hI.boxTok id x t h a b
      map:=fun id hi=>by
        obtain⟨es,ents,clk,h1,h2,h3⟩:=hI.map id hi
        exact⟨es,ents,clk,h1,h2,h3.mono hext⟩
      mapInj:=hI.mapInj
      tip:=fun t n' ty' sf' h=>by
        by_cases e:S.nt=t
        · subst e;rw [lk_same] at h;cases h
        · rw [lk_ne _ _ e] at h
          obtain⟨h1,h2⟩:=hI.tip t n' ty' sf' h
          refine⟨Nat.lt_succ_of_lt h1,fun hv=>?_⟩
          obtain⟨es',c',fr',e1,e2,e3,e4,e5⟩:=h2 (hvld t (by omega) hv).2
          exact⟨es',c',fr',e1,by simp only [hτ t h1];exact e2,by simp only [hτ t h1];exact e3,e4,e5⟩
      tipInj:=fun t t' x x' h h' hne hv hv'=>by
        have old:∀i y,lk ((S.nt,none)::S.tip) i=some (some y)→i<S.nt∧lk S.tip i=some (some y):=fun i y hh=>by
          by_cases e:S.nt=i
          · subst e;rw [lk_same] at hh;cases hh
          · rw [lk_ne _ _ e] at hh;exact⟨(hI.tip i y.1 y.2.1 y.2.2 hh).1,hh⟩
        obtain⟨a,b⟩:=old t x h
        obtain⟨a',b'⟩:=old t' x' h'
        simp only [hτ t a,hτ t' a']
        exact hI.tipInj t t' x x' b b' hne (hvld t (by omega) hv).2 (hvld t' (by omega) hv').2
      line:=fun t t' hi hi' hv hv' heq=>by
        obtain⟨a,b⟩:=hvld t hi hv
        obtain⟨a',b'⟩:=hvld t' hi' hv'
        simp only [hτ t a,hτ t' a'] at heq
        simp only [hln t a,hln t' a']
        exact hI.line t t' a a' b b' heq
      lnLt:=fun t hi=>by
        by_cases e:t=S.nt
        · subst e;simp only [upd_same];exact Nat.lt_succ_self _
        · simp only [upd_ne _ _ e];have:=hI.lnLt t (by simp at hi;omega);simp;omega
      kBox:=hI.kBox
      kMap:=hI.kMap
      kMv:=fun t ht=>by rw [lk_ne _ _ (by simp at ht;omega)];exact hI.kMv t (by simp at ht;omega)
      kTip:=fun t ht=>by rw [lk_ne _ _ (by simp at ht;omega)];exact hI.kTip t (by simp at ht;omega)
      kDl:=fun t ht=>hI.kDl t (by simp at ht;omega)
      glob:=fun g cs hgl=>by
        obtain⟨h1,c,ty,fr,h2,h3⟩:=hI.glob g cs hgl
        exact⟨h1,c,ty,fr,h2,h3.mono hext⟩ }
theorem Tr.boxGone (hI:Inv P gt S G w) (id:Nat) (hid:id<S.nb):Tr P gt S G w { S with boxes:=(id,none)::S.boxes } G w:=by
  have hext:Ext S G w { S with boxes:=(id,none)::S.boxes } G w:={ (Ext.refl:Ext S G w S G w) with moved:=fun t b o _ h h'=>by rw [h] at h';cases h' }
  have hlk:∀i x,lk ((id,none)::S.boxes) i=some (some x)→lk S.boxes i=some (some x):=fun i x h=>by
    by_cases e:id=i
    · subst e;rw [lk_same] at h;cases h
    · rw [lk_ne _ _ e] at h;exact h
  refine⟨{ hI with
    box:=fun i ty cs h=>by
      obtain⟨h1,c',fr,sf,pre,rest,h2,h3,h4,h5⟩:=hI.box i ty cs (hlk i _ h)
      exact⟨h1,c',fr,sf,pre,rest,h2,h3,h4,h5.mono hext⟩
    boxInj:=fun i i' x x' h h'=>hI.boxInj i i' x x' (hlk i x h) (hlk i' x' h')
    boxTok:=fun i x t h=>hI.boxTok i x t (hlk i x h)
    map:=fun id hi=>by
      obtain⟨es,ents,clk,h1,h2,h3⟩:=hI.map id hi
      exact⟨es,ents,clk,h1,h2,h3.mono hext⟩
    kBox:=fun i hi=>by rw [lk_ne _ _ (by simp at hi;omega)];exact hI.kBox i hi
    glob:=fun g cs hgl=>by
      obtain⟨h1,c,ty,fr,h2,h3⟩:=hI.glob g cs hgl
      exact⟨h1,c,ty,fr,h2,h3.mono hext⟩ },hext,fun b hb _=>rfl⟩
theorem Tr.tipGone (hI:Inv P gt S G w) (t:Nat) (ht:t<S.nt):Tr P gt S G w { S with tip:=(t,none)::S.tip } G w:=by
  have hext:Ext S G w { S with tip:=(t,none)::S.tip } G w:={ (Ext.refl:Ext S G w S G w) with moved:=fun t b o _ h h'=>by rw [h] at h';cases h' }
  have hlk:∀i x,lk ((t,none)::S.tip) i=some (some x)→lk S.tip i=some (some x):=fun i x h=>by
    by_cases e:t=i
    · subst e;rw [lk_same] at h;cases h
    · rw [lk_ne _ _ e] at h;exact h
  refine⟨{ hI with
    box:=fun i ty cs h=>by
      obtain⟨h1,c',fr,sf,pre,rest,h2,h3,h4,h5⟩:=hI.box i ty cs h
      exact⟨h1,c',fr,sf,pre,rest,h2,h3,h4,h5.mono hext⟩
    map:=fun id hi=>by
      obtain⟨es,ents,clk,h1,h2,h3⟩:=hI.map id hi
      exact⟨es,ents,clk,h1,h2,h3.mono hext⟩
    tip:=fun i n ty sf h=>hI.tip i n ty sf (hlk i _ h)
    tipInj:=fun i i' x x' h h'=>hI.tipInj i i' x x' (hlk i x h) (hlk i' x' h')
    kTip:=fun i hi=>by rw [lk_ne _ _ (by simp at hi;omega)];exact hI.kTip i hi
    glob:=fun g cs hgl=>by
      obtain⟨h1,c,ty,fr,h2,h3⟩:=hI.glob g cs hgl
      exact⟨h1,c,ty,fr,h2,h3.mono hext⟩ },hext,fun b hb _=>rfl⟩
end

def wBlk (w:World) (b:Nat) (o:Obj):World:={ w with heap:=w.heap.setIfInBounds b o }
theorem wBlk_size (w:World) (b:Nat) (o:Obj):(wBlk w b o).heap.size=w.heap.size:=by simp [wBlk]
theorem wBlk_same {w:World} {b:Nat} (o:Obj) (h:b<w.heap.size):(wBlk w b o).heap[b]? = some o:=by simp [wBlk,h]
theorem wBlk_ne {w:World} {b b':Nat} (o:Obj) (h:b'≠b):(wBlk w b o).heap[b']? = w.heap[b']?:=by
  simp only [wBlk];rw [Array.getElem?_setIfInBounds_ne (Ne.symm h)]
section
variable {P:Program} {gt:GT} {S:St} {G:Gh} {w:World}
theorem wBlk_shape {b:Nat} {c c':Array Value} {ty:TypeId} {fr fr':Nat×Nat} (h:w.heap[b]? = some (.cells c ty fr)) (hs:c'.size=c.size) :
    ∀b' x,w.shape? b'=some x→(wBlk w b (.cells c' ty fr')).shape? b'=some x:=by
  intro b' x hx
  by_cases e:b'=b
  · subst e
    simp only [World.shape?,wBlk_same _ (lt_of_some h),h,hs] at hx ⊢
    exact hx
  · simpa only [World.shape?,wBlk_ne _ e] using hx
theorem Ext.blk (hI:Inv P gt S G w) {S':St} {b:Nat} {c c':Array Value} {ty:TypeId} {fr fr':Nat×Nat} (hb:Own S G b) (h:w.heap[b]? = some (.cells c ty fr)) (hs:c'.size=c.size)
    (hnb:S'.nb=S.nb) (hnt:S'.nt=S.nt) (hnm:S'.nm=S.nm) (hmv:S'.mv=S.mv) (hdl:S'.dl=S.dl)
    (hc:∀t,t<S.nt→Vld S G t→G.τ t=b→∀i,i<G.sz b→c'[i]? = c[i]?):Ext S G w S' G (wBlk w b (.cells c' ty fr')) where
  nb:=Nat.le_of_eq hnb.symm
  nt:=Nat.le_of_eq hnt.symm
  nm:=Nat.le_of_eq hnm.symm
  β _ _:=rfl
  τ _ _:=rfl
  ln _ _:=rfl
  μ _ _:=rfl
  size:=by rw [wBlk_size];exact nR _
  own _ _ ho:=by unfold Own at ho ⊢;rw [hnb,hnt,hnm] at ho;exact ho
  st _ hb':=⟨hb',wBlk_ne _ (fun e=>hI.stOwn _ hb' (by rw [e];exact hb))⟩
  stNew _ _ h:=h
  shape:=wBlk_shape h hs
  mv _ _ _ h:=by rw [hmv];exact h
  dl _ h:=by rw [hdl] at h;exact h
  sea t ht hm hd:=by
    refine⟨nR _,fun i hi=>?_⟩
    rw [hmv] at hm;rw [hdl] at hd
    by_cases e:G.τ t=b
    · simp only [World.cell?,e,wBlk_same _ (lt_of_some h),h]
      simpa using hc t ht ⟨hm,hd⟩ e i (e ▸ hi)
    · simp only [World.cell?,wBlk_ne _ e]
  moved _ _ _ _ h h1:=by rw [hmv,h] at h1;cases h1
  os:=rfl
  tape:=rfl
  output:=rfl
theorem Keep.blk {b:Nat} (o:Obj) (hb:Own S G b) (B:Nat):Keep B S G w (wBlk w b o) :=
  fun b' _ hn=>wBlk_ne _ (fun e=>hn (e ▸ hb))
theorem Tr.boxSet (hI:Inv P gt S G w) {id:Nat} {ty:TypeId} {cs cs':List AV} {c c':Array Value} {fr:Nat×Nat} {pre' rest:List Value} (h:lk S.boxes id=some (some (ty,cs))) (hw:w.heap[G.β id]? = some (.cells c ty fr))
    (hs:c'.size=c.size) (hc:c'.toList=pre'++rest) (hr:Rl S G w cs' pre') :
    Tr P gt S G w { S with boxes:=(id,some (ty,cs'))::S.boxes } G (wBlk w (G.β id) (.cells c' ty fr)):=by
  obtain⟨hid,c0,fr0,sf0,pre0,rest0,hw0,hf0,_,_⟩:=hI.box id ty cs h
  rw [hw] at hw0
  cases hw0
  have hown:Own S G (G.β id):=.inl ⟨id,hid,rfl⟩
  have hext:Ext S G w { S with boxes:=(id,some (ty,cs'))::S.boxes } G (wBlk w (G.β id) (.cells c' ty fr)) :=
    Ext.blk hI hown hw hs rfl rfl rfl rfl rfl fun t ht hv e=>absurd e (hI.boxTok id _ t h ht hv)
  have hlt:=lt_of_some hw
  have hlk:∀i x,lk ((id,some (ty,cs'))::S.boxes) i=some (some x)→∃y,lk S.boxes i=some (some y):=fun i x hh=>by
    by_cases e:id=i
    · subst e;exact⟨_,h⟩
    · rw [lk_ne _ _ e] at hh;exact⟨_,hh⟩
  refine⟨?_,hext,Keep.blk _ hown _⟩
  exact
    { boxLt:=fun i hi=>by rw [wBlk_size];exact hI.boxLt i hi
      tokLt:=fun i hi=>by rw [wBlk_size];exact hI.tokLt i hi
      mapLt:=fun i hi=>by rw [wBlk_size];exact hI.mapLt i hi
      stLt:=fun i hi=>by rw [wBlk_size];exact hI.stLt i hi
      stOwn:=hI.stOwn
      box:=fun i ty' cs'' hh=>by
        by_cases e:id=i
        · subst e
          rw [lk_same] at hh;cases hh
          exact⟨hid,c',fr,sf0,pre',rest,wBlk_same _ hlt,by rw [hs];exact hf0,hc,hr.mono hext⟩
        · rw [lk_ne _ _ e] at hh
          obtain⟨h1,c'',fr',sf,pre,rest,h2,h3,h4,h5⟩:=hI.box i ty' cs'' hh
          exact⟨h1,c'',fr',sf,pre,rest,by rw [wBlk_ne _ (hI.boxInj i id _ _ hh h (Ne.symm e))];exact h2,h3,h4,h5.mono hext⟩
      boxInj:=fun i i' x x' hh hh'=>by
        obtain⟨y,hy⟩:=hlk i x hh
        obtain⟨y',hy'⟩:=hlk i' x' hh'
        exact hI.boxInj i i' y y' hy hy'
      boxTok:=fun i x t hh=>by
        obtain⟨y,hy⟩:=hlk i x hh
        exact hI.boxTok i y t hy
      map:=fun i hi=>by
        obtain⟨es,ents,clk,h1,h2,h3⟩:=hI.map i hi
        refine⟨es,ents,clk,h1,?_,h3.mono hext⟩
        rw [wBlk_ne _ (fun e=>?_)]
        · exact h2
        · rw [e,hw] at h2;cases h2
      mapInj:=hI.mapInj
      tip:=fun t n ty' sf ht=>by
        obtain⟨h1,h2⟩:=hI.tip t n ty' sf ht
        refine⟨h1,fun hv=>?_⟩
        obtain⟨es,c'',fr',e1,e2,e3⟩:=h2 hv
        exact⟨es,c'',fr',e1,by rw [wBlk_ne _ (hI.boxTok id _ t h h1 hv)];exact e2,e3⟩
      tipInj:=hI.tipInj
      line:=hI.line
      lnLt:=hI.lnLt
      kBox:=fun i hi=>by rw [lk_ne _ _ (by simp at hi;omega)];exact hI.kBox i hi
      kMap:=hI.kMap
      kMv:=hI.kMv
      kTip:=hI.kTip
      kDl:=hI.kDl
      glob:=fun g cs hgl=>by
        obtain⟨h1,c,ty,fr,h2,h3⟩:=hI.glob g cs hgl
        refine⟨h1,c,ty,fr,?_,h3.mono hext⟩
        rw [wBlk_ne _ (fun e=>hI.stOwn g h1 (by rw [e];exact hown))];exact h2 }
theorem Tr.mapSet (hI:Inv P gt S G w) {id:Nat} {es':List (AV×AV)} {ents ents':Array MapEntry} {clk clk':Nat} (hid:id<S.nm) (hw:w.heap[G.μ id]? = some (.map ents clk))
    (hr:RlM S G w es' ents' clk') :
    Tr P gt S G w { S with maps:=(id,es')::S.maps } G (wBlk w (G.μ id) (.map ents' clk')):=by
  have hown:Own S G (G.μ id):=.inr (.inr ⟨id,hid,rfl⟩)
  have hlt:=lt_of_some hw
  have hext:Ext S G w { S with maps:=(id,es')::S.maps } G (wBlk w (G.μ id) (.map ents' clk')) :=
    { (Ext.refl:Ext S G w S G w) with
      size:=by rw [wBlk_size];exact nR _
      own:=fun _ _ h=>h
      st:=fun b' hb'=>⟨hb',wBlk_ne _ (fun e=>hI.stOwn b' hb' (by rw [e];exact hown))⟩
      shape:=fun b' x hx=>by
        by_cases e:b'=G.μ id
        · subst e;simp [World.shape?,hw] at hx
        · simpa only [World.shape?,wBlk_ne _ e] using hx
      sea:=fun t ht _ _=>⟨nR _,fun i _=>by
        by_cases e:G.τ t=G.μ id
        · simp only [World.cell?,e,wBlk_same _ hlt,hw]
        · simp only [World.cell?,wBlk_ne _ e]⟩
      moved:=fun t b o _ h h'=>by rw [h] at h';cases h' }
  refine⟨?_,hext,Keep.blk _ hown _⟩
  exact
    { boxLt:=fun i hi=>by rw [wBlk_size];exact hI.boxLt i hi
      tokLt:=fun i hi=>by rw [wBlk_size];exact hI.tokLt i hi
      mapLt:=fun i hi=>by rw [wBlk_size];exact hI.mapLt i hi
      stLt:=fun i hi=>by rw [wBlk_size];exact hI.stLt i hi
      stOwn:=hI.stOwn
      box:=fun i ty' cs'' hh=>by
        obtain⟨h1,c'',fr',sf,pre,rest,h2,h3,h4,h5⟩:=hI.box i ty' cs'' hh
        refine⟨h1,c'',fr',sf,pre,rest,?_,h3,h4,h5.mono hext⟩
        rw [wBlk_ne _ (fun e=>?_)]
        · exact h2
        · rw [e,hw] at h2;cases h2
      boxInj:=hI.boxInj
      boxTok:=hI.boxTok
      map:=fun i hi=>by
        by_cases e:id=i
        · subst e
          exact⟨es',ents',clk',lk_same _ _ _,wBlk_same _ hlt,hr.mono hext⟩
        · obtain⟨es,ents,clk,h1,h2,h3⟩:=hI.map i hi
          exact⟨es,ents,clk,by rw [lk_ne _ _ e];exact h1,by rw [wBlk_ne _ (hI.mapInj i id hi hid (Ne.symm e))];exact h2,h3.mono hext⟩
      mapInj:=hI.mapInj
      tip:=fun t n ty' sf ht=>by
        obtain⟨h1,h2⟩:=hI.tip t n ty' sf ht
        refine⟨h1,fun hv=>?_⟩
        obtain⟨es,c'',fr',e1,e2,e3⟩:=h2 hv
        refine⟨es,c'',fr',e1,?_,e3⟩
        rw [wBlk_ne _ (fun e=>?_)]
        · exact e2
        · rw [e,hw] at e2;cases e2
      tipInj:=hI.tipInj
      line:=hI.line
      lnLt:=hI.lnLt
      kBox:=hI.kBox
      kMap:=fun i hi=>by rw [lk_ne _ _ (by simp at hi;omega)];exact hI.kMap i hi
      kMv:=hI.kMv
      kTip:=hI.kTip
      kDl:=hI.kDl
      glob:=fun g cs hgl=>by
        obtain⟨h1,c,ty,fr,h2,h3⟩:=hI.glob g cs hgl
        refine⟨h1,c,ty,fr,?_,h3.mono hext⟩
        rw [wBlk_ne _ (fun e=>hI.stOwn g h1 (by rw [e];exact hown))];exact h2 }
theorem Tr.mark (hI:Inv P gt S G w) {b:Nat} {c:Array Value} {ty:TypeId} {fr fr':Nat×Nat} (hb:Own S G b) (h:w.heap[b]? = some (.cells c ty fr))
    (hbox:∀id x,lk S.boxes id=some (some x)→G.β id≠b) (htip:∀t x,lk S.tip t=some (some x)→Vld S G t→G.τ t≠b):Tr P gt S G w S G (wBlk w b (.cells c ty fr')):=by
  have hext:Ext S G w S G (wBlk w b (.cells c ty fr')):=Ext.blk hI hb h rfl rfl rfl rfl rfl rfl fun _ _ _ _ _ _=>rfl
  refine⟨?_,hext,Keep.blk _ hb _⟩
  exact
    { boxLt:=fun i hi=>by rw [wBlk_size];exact hI.boxLt i hi
      tokLt:=fun i hi=>by rw [wBlk_size];exact hI.tokLt i hi
      mapLt:=fun i hi=>by rw [wBlk_size];exact hI.mapLt i hi
      stLt:=fun i hi=>by rw [wBlk_size];exact hI.stLt i hi
      stOwn:=hI.stOwn
      box:=fun i ty' cs'' hh=>by
        obtain⟨h1,c'',fr',sf,pre,rest,h2,h3,h4,h5⟩:=hI.box i ty' cs'' hh
        exact⟨h1,c'',fr',sf,pre,rest,by rw [wBlk_ne _ (hbox i _ hh)];exact h2,h3,h4,h5.mono hext⟩
      boxInj:=hI.boxInj
      boxTok:=hI.boxTok
      map:=fun i hi=>by
        obtain⟨es,ents,clk,h1,h2,h3⟩:=hI.map i hi
        refine⟨es,ents,clk,h1,?_,h3.mono hext⟩
        rw [wBlk_ne _ (fun e=>?_)]
        · exact h2
        · rw [e,h] at h2;cases h2
      mapInj:=hI.mapInj
      tip:=fun t n ty' sf ht=>by
        obtain⟨h1,h2⟩:=hI.tip t n ty' sf ht
        refine⟨h1,fun hv=>?_⟩
        obtain⟨es,c'',fr',e1,e2,e3⟩:=h2 hv
        exact⟨es,c'',fr',e1,by rw [wBlk_ne _ (htip t _ ht hv)];exact e2,e3⟩
      tipInj:=hI.tipInj
      line:=hI.line
      lnLt:=hI.lnLt
      kBox:=hI.kBox
      kMap:=hI.kMap
      kMv:=hI.kMv
      kTip:=hI.kTip
      kDl:=hI.kDl
      glob:=fun g cs hgl=>by
        obtain⟨h1,c,ty,fr,h2,h3⟩:=hI.glob g cs hgl
        refine⟨h1,c,ty,fr,?_,h3.mono hext⟩
        rw [wBlk_ne _ (fun e=>hI.stOwn g h1 (by rw [e];exact hb))];exact h2 }
theorem Tr.inPlace (hI:Inv P gt S G w) {t m n es:Nat} {ty:TypeId} {sf:Bool} {c c':Array Value} {fr:Nat×Nat} (h:lk S.tip t=some (some (m,ty,sf))) (hv:Vld S G t)
    (he:sizeP P ty=some es) (hw:w.heap[G.τ t]? = some (.cells c ty fr)) (hs:c'.size=c.size) (hmn:m≤n) (hn:n*es≤c.size) (hc:∀i,i<m*es→c'[i]? = c[i]?) :
    Tr P gt S G w { S with nt:=S.nt+1,tip:=(S.nt,some (n,ty,sf))::(t,none)::S.tip } { G with τ:=upd G.τ S.nt (G.τ t),ln:=upd G.ln S.nt (G.ln t),sz:=upd G.sz (G.τ t) (n*es) } (wBlk w (G.τ t) (.cells c' ty fr)):=by
  obtain⟨ht,h2⟩:=hI.tip t m ty sf h
  obtain⟨es0,c0,fr0,e1,e2,e3,e4,e5⟩:=h2 hv
  rw [he] at e1;cases e1
  rw [hw] at e2;cases e2
  have hown:Own S G (G.τ t):=.inr (.inl ⟨t,ht,rfl⟩)
  have hτ:∀i,i<S.nt→upd G.τ S.nt (G.τ t) i=G.τ i:=fun i hi=>upd_ne _ _ (by omega)
  have hln:∀i,i<S.nt→upd G.ln S.nt (G.ln t) i=G.ln i:=fun i hi=>upd_ne _ _ (by omega)
  have hszle:∀b,G.sz b≤upd G.sz (G.τ t) (n*es) b:=fun b=>by
    by_cases e:b=G.τ t
    · subst e;rw [upd_same,e3];exact Nat.mul_le_mul_right _ hmn
    · rw [upd_ne _ _ e];exact nR _
  have hlt:=lt_of_some hw
  have h0:Ext S G w S G (wBlk w (G.τ t) (.cells c' ty fr)):=Ext.blk hI hown hw hs rfl rfl rfl rfl rfl fun t' ht' hv' e i hi=>hc i (by rw [←e3];exact hi)
  have hext:Ext S G w { S with nt:=S.nt+1,tip:=(S.nt,some (n,ty,sf))::(t,none)::S.tip } { G with τ:=upd G.τ S.nt (G.τ t),ln:=upd G.ln S.nt (G.ln t),sz:=upd G.sz (G.τ t) (n*es) } (wBlk w (G.τ t) (.cells c' ty fr)) :=
    { h0 with
      nt:=Nat.le_succ _
      τ:=hτ
      ln:=hln
      own:=by
        rintro b hb (h | ⟨i,hi,he⟩ | h)
        · exact .inl h
        · by_cases e:i=S.nt
          · subst e;simp only [upd_same] at he;exact .inr (.inl ⟨t,ht,he⟩)
          · simp only [upd_ne _ _ e] at he;exact .inr (.inl ⟨i,by simp at hi;omega,he⟩)
        · exact .inr (.inr h)
      sea:=fun i hi hm hd=>⟨hszle _,(h0.sea i hi hm hd).2⟩
      moved:=fun t b o _ h h'=>by rw [h] at h';cases h' }
  have hvld:∀i,i<S.nt→Vld { S with nt:=S.nt+1,tip:=(S.nt,some (n,ty,sf))::(t,none)::S.tip } { G with τ:=upd G.τ S.nt (G.τ t),ln:=upd G.ln S.nt (G.ln t),sz:=upd G.sz (G.τ t) (n*es) } i→Vld S G i:=fun i hi h=>by
    unfold Vld at h ⊢;simp only [hln i hi] at h;exact h
  have htl:∀i y,S.nt≠i→lk ((S.nt,some (n,ty,sf))::(t,none)::S.tip) i=some (some y)→i≠t∧i<S.nt∧lk S.tip i=some (some y):=fun i y e hh=>by
    rw [lk_ne _ _ e] at hh
    by_cases e':t=i
    · subst e';rw [lk_same] at hh;cases hh
    · rw [lk_ne _ _ e'] at hh
      exact⟨Ne.symm e',(hI.tip i y.1 y.2.1 y.2.2 hh).1,hh⟩
  refine⟨?_,hext,Keep.blk _ hown _⟩
  exact
    { boxLt:=fun i hi=>by rw [wBlk_size];exact hI.boxLt i hi
      tokLt:=fun i hi=>by
        rw [wBlk_size]
        by_cases e:i=S.nt
        · subst e;simp only [upd_same];exact hlt
        · simp only [upd_ne _ _ e];exact hI.tokLt i (by simp at hi;omega)
      mapLt:=fun i hi=>by rw [wBlk_size];exact hI.mapLt i hi
      stLt:=fun i hi=>by rw [wBlk_size];exact hI.stLt i hi
      stOwn:=fun b hb ho=>hI.stOwn b hb (hext.own b (hI.stLt b hb) ho)
      box:=fun i ty' cs'' hh=>by
        obtain⟨h1,c'',fr',sf',pre,rest,h2,h3,h4,h5⟩:=hI.box i ty' cs'' hh
        exact⟨h1,c'',fr',sf',pre,rest,by rw [wBlk_ne _ (fun e=>hI.boxTok i _ t hh ht hv e.symm)];exact h2,h3,h4,h5.mono hext⟩
      boxInj:=hI.boxInj
      boxTok:=fun id x i h hi hv'=>by
        by_cases e:i=S.nt
        · subst e;simp only [upd_same];exact hI.boxTok id x t h ht hv
        · have hi2:i<S.nt:=by simp at hi;omega
          simp only [hτ i hi2]
          exact hI.boxTok id x i h hi2 (hvld i hi2 hv')
      map:=fun i hi=>by
        obtain⟨es,ents,clk,h1,h2,h3⟩:=hI.map i hi
        refine⟨es,ents,clk,h1,?_,h3.mono hext⟩
        rw [wBlk_ne _ (fun e=>?_)]
        · exact h2
        · rw [show G.μ i=G.τ t from e,hw] at h2;cases h2
      mapInj:=hI.mapInj
      tip:=fun i n' ty' sf' hh=>by
        by_cases e:S.nt=i
        · subst e
          rw [lk_same] at hh
          cases hh
          exact⟨Nat.lt_succ_self _,fun _=>⟨es,c',fr,he,by simp only [upd_same];exact wBlk_same _ hlt,by simp only [upd_same],by rw [hs];exact hn,by rw [hs];exact e5⟩⟩
        · obtain⟨hne,hi,hh'⟩:=htl i _ e hh
          obtain⟨h1,h2⟩:=hI.tip i n' ty' sf' hh'
          refine⟨Nat.lt_succ_of_lt h1,fun hv'=>?_⟩
          obtain⟨es',c'',fr',e1',e2',e3',e4',e5'⟩:=h2 (hvld i h1 hv')
          have hd:=hI.tipInj i t _ _ hh' h hne (hvld i h1 hv') hv
          refine⟨es',c'',fr',e1',?_,?_,e4',e5'⟩
          · simp only [hτ i h1];rw [wBlk_ne _ hd];exact e2'
          · simp only [hτ i h1];rw [upd_ne _ _ hd];exact e3'
      tipInj:=fun i i' x x' hh hh' hne hv1 hv2=>by
        by_cases e:S.nt=i
        · have e':S.nt≠i':=fun q=>hne (e.symm.trans q)
          obtain⟨a,b,d⟩:=htl i' x' e' hh'
          subst e;simp only [upd_same,hτ i' b]
          exact hI.tipInj t i' _ _ h d (Ne.symm a) hv (hvld i' b hv2)
        · obtain⟨a,b,d⟩:=htl i x e hh
          by_cases e':S.nt=i'
          · subst e';simp only [upd_same,hτ i b]
            exact hI.tipInj i t _ _ d h a (hvld i b hv1) hv
          · obtain⟨a',b',d'⟩:=htl i' x' e' hh'
            simp only [hτ i b,hτ i' b']
            exact hI.tipInj i i' _ _ d d' hne (hvld i b hv1) (hvld i' b' hv2)
      line:=fun i i' hi hi' hv1 hv2 heq=>by
        by_cases e:i=S.nt
        · by_cases e':i'=S.nt
          · subst e;subst e';rfl
          · have b':i'<S.nt:=by simp at hi';omega
            subst e
            simp only [upd_same,hτ i' b'] at heq
            simp only [upd_same,hln i' b']
            exact hI.line t i' ht b' hv (hvld i' b' hv2) heq
        · have b:i<S.nt:=by simp at hi;omega
          by_cases e':i'=S.nt
          · subst e'
            simp only [upd_same,hτ i b] at heq
            simp only [upd_same,hln i b]
            exact hI.line i t b ht (hvld i b hv1) hv heq
          · have b':i'<S.nt:=by simp at hi';omega
            simp only [hτ i b,hτ i' b'] at heq
            simp only [hln i b,hln i' b']
            exact hI.line i i' b b' (hvld i b hv1) (hvld i' b' hv2) heq
      lnLt:=fun i hi=>by
        by_cases e:i=S.nt
        · subst e;simp only [upd_same];have:=hI.lnLt t ht;omega
        · simp only [upd_ne _ _ e];have:=hI.lnLt i (by simp at hi;omega);simp;omega
      kBox:=hI.kBox
      kMap:=hI.kMap
      kMv:=fun i hi=>hI.kMv i (by simp at hi;omega)
      kTip:=fun i hi=>by rw [lk_ne _ _ (by simp at hi;omega),lk_ne _ _ (by simp at hi;omega)];exact hI.kTip i (by simp at hi;omega)
      kDl:=fun i hi=>hI.kDl i (by simp at hi;omega)
      glob:=fun g cs hgl=>by
        obtain⟨h1,c,ty,fr,h2,h3⟩:=hI.glob g cs hgl
        refine⟨h1,c,ty,fr,?_,h3.mono hext⟩
        rw [wBlk_ne _ (fun e=>hI.stOwn g h1 (by rw [e];exact hown))];exact h2 }
theorem Tr.thaw (hI:Inv P gt S G w) {t l n:Nat} {ty:TypeId} {sf:Bool} {cs:List AV} {c:Array Value} {fr:Nat×Nat} {pre rest:List Value} (h:lk S.tip t=some (some (n,ty,sf))) (hv:Vld S G t) (hl:G.ln t=l)
    (hw:w.heap[G.τ t]? = some (.cells c ty fr)) (hc:c.toList=pre++rest) (hr:Rl S G w cs pre) :
    Tr P gt S G w { S with nb:=S.nb+1,boxes:=(S.nb,some (ty,cs))::S.boxes,mv:=(t,.bx S.nb 0)::S.mv,dl:=(l,())::S.dl,tip:=(t,none)::S.tip } { G with β:=upd G.β S.nb (G.τ t) } w:=by
  obtain⟨ht,h2⟩:=hI.tip t n ty sf h
  obtain⟨es0,c0,fr0,e1,e2,e3,e4,e5⟩:=h2 hv
  rw [hw] at e2;cases e2
  have hβ:∀i,i<S.nb→upd G.β S.nb (G.τ t) i=G.β i:=fun i hi=>upd_ne _ _ (by omega)
  have hdl:∀i,lk ((l,())::S.dl) i=none→l≠i∧lk S.dl i=none:=fun i hh=>by
    by_cases e:l=i
    · subst e;rw [lk_same] at hh;cases hh
    · rw [lk_ne _ _ e] at hh;exact⟨e,hh⟩
  have hext:Ext S G w { S with nb:=S.nb+1,boxes:=(S.nb,some (ty,cs))::S.boxes,mv:=(t,.bx S.nb 0)::S.mv,dl:=(l,())::S.dl,tip:=(t,none)::S.tip } { G with β:=upd G.β S.nb (G.τ t) } w :=
    { (Ext.refl:Ext S G w S G w) with
      nb:=Nat.le_succ _
      β:=hβ
      own:=by
        rintro b hb (⟨i,hi,he⟩ | h)
        · by_cases e:i=S.nb
          · subst e;simp only [upd_same] at he;exact .inr (.inl ⟨t,ht,he⟩)
          · simp only [upd_ne _ _ e] at he;exact .inl ⟨i,by simp at hi;omega,he⟩
        · exact .inr h
      mv:=fun i m hi hm=>by
        have:t≠i:=fun e=>by subst e;rw [hv.1] at hm;cases hm
        rw [lk_ne _ _ this];exact hm
      dl:=fun i hi=>(hdl i hi).2
      sea:=fun i hi _ _=>⟨nR _,fun _ _=>rfl⟩
      moved:=fun i b o hi hm hm'=>by
        by_cases e:t=i
        · subst e
          rw [lk_same] at hm'
          cases hm'
          exact⟨hv.2,by simp only [upd_same],Nat.lt_succ_self _,rfl⟩
        · rw [lk_ne _ _ e,hm] at hm';cases hm' }
  have hvld:∀i,Vld { S with nb:=S.nb+1,boxes:=(S.nb,some (ty,cs))::S.boxes,mv:=(t,.bx S.nb 0)::S.mv,dl:=(l,())::S.dl,tip:=(t,none)::S.tip } { G with β:=upd G.β S.nb (G.τ t) } i→t≠i∧l≠G.ln i∧Vld S G i:=fun i h=>by
    unfold Vld at h ⊢
    have ne:t≠i:=fun e=>by subst e;rw [lk_same] at h;cases h.1
    rw [lk_ne _ _ ne] at h
    exact⟨ne,(hdl _ h.2).1,h.1,(hdl _ h.2).2⟩
  have htl:∀i y,lk ((t,none)::S.tip) i=some (some y)→lk S.tip i=some (some y):=fun i y hh=>by
    by_cases e':t=i
    · subst e';rw [lk_same] at hh;cases hh
    · rw [lk_ne _ _ e'] at hh;exact hh
  refine⟨?_,hext,fun b hb _=>rfl⟩
  exact
    { boxLt:=fun i hi=>by
        by_cases e:i=S.nb
        · subst e;simp only [upd_same];exact hI.tokLt t ht
        · simp only [upd_ne _ _ e];exact hI.boxLt i (by simp at hi;omega)
      tokLt:=hI.tokLt
      mapLt:=hI.mapLt
      stLt:=hI.stLt
      stOwn:=fun b hb ho=>hI.stOwn b hb (hext.own b (hI.stLt b hb) ho)
      box:=fun i ty' cs'' hh=>by
        by_cases e:S.nb=i
        · subst e
          rw [lk_same] at hh;cases hh
          exact⟨Nat.lt_succ_self _,c,fr,sf,pre,rest,by simp only [upd_same];exact hw,e5,hc,hr.mono hext⟩
        · rw [lk_ne _ _ e] at hh
          obtain⟨h1,c'',fr',sf',pre,rest,h2,h3,h4,h5⟩:=hI.box i ty' cs'' hh
          exact⟨Nat.lt_succ_of_lt h1,c'',fr',sf',pre,rest,by simp only [hβ i h1];exact h2,h3,h4,h5.mono hext⟩
      boxInj:=fun i i' x x' hh hh' hne=>by
        by_cases e:S.nb=i
        · have e':S.nb≠i':=fun q=>hne (e.symm.trans q)
          rw [lk_ne _ _ e'] at hh'
          subst e;simp only [upd_same,hβ i' (hI.box i' x'.1 x'.2 hh').1]
          exact hI.boxTok i' x' t hh' ht hv
        · rw [lk_ne _ _ e] at hh
          by_cases e':S.nb=i'
          · subst e';simp only [upd_same,hβ i (hI.box i x.1 x.2 hh).1]
            exact (hI.boxTok i x t hh ht hv).symm
          · rw [lk_ne _ _ e'] at hh'
            simp only [hβ i (hI.box i x.1 x.2 hh).1,hβ i' (hI.box i' x'.1 x'.2 hh').1]
            exact hI.boxInj i i' x x' hh hh' hne
      boxTok:=fun id x i h hi hv'=>by
        obtain⟨a,b,d⟩:=hvld i hv'
        by_cases e:S.nb=id
        · subst e;simp only [upd_same]
          intro heq
          exact b (by rw [←hl];exact hI.line t i ht hi hv d heq.symm)
        · rw [lk_ne _ _ e] at h
          simp only [hβ id (hI.box id x.1 x.2 h).1]
          exact hI.boxTok id x i h hi d
      map:=fun i hi=>by
        obtain⟨es,ents,clk,h1,h2,h3⟩:=hI.map i hi
        exact⟨es,ents,clk,h1,h2,h3.mono hext⟩
      mapInj:=hI.mapInj
      tip:=fun i n' ty' sf' hh=>by
        obtain⟨h1,h2⟩:=hI.tip i n' ty' sf' (htl i _ hh)
        exact⟨h1,fun hv'=>h2 (hvld i hv').2.2⟩
      tipInj:=fun i i' x x' hh hh' hne hv1 hv2=>hI.tipInj i i' x x' (htl i _ hh) (htl i' _ hh') hne (hvld i hv1).2.2 (hvld i' hv2).2.2
      line:=fun i i' hi hi' hv1 hv2 heq=>hI.line i i' hi hi' (hvld i hv1).2.2 (hvld i' hv2).2.2 heq
      lnLt:=hI.lnLt
      kBox:=fun i hi=>by rw [lk_ne _ _ (by simp at hi;omega)];exact hI.kBox i (by simp at hi;omega)
      kMap:=hI.kMap
      kMv:=fun i hi=>by rw [lk_ne _ _ (by simp at hi;omega)];exact hI.kMv i hi
      kTip:=fun i hi=>by rw [lk_ne _ _ (by simp at hi;omega)];exact hI.kTip i hi
      kDl:=fun i hi=>by
        have:=hI.lnLt t ht
        rw [lk_ne _ _ (by simp at hi;omega)];exact hI.kDl i hi
      glob:=fun g cs hgl=>by
        obtain⟨h1,c,ty,fr,h2,h3⟩:=hI.glob g cs hgl
        exact⟨h1,c,ty,fr,h2,h3.mono hext⟩ }
end

theorem add_none (b off n:Nat):(⟨b,off,none⟩:Addr).add n=⟨b,off+n,none⟩:=by
 unfold Addr.add;split<;>simp_all
section rl
variable {S:St}{G:Gh}{w:World}
theorem Rl.length:∀{xs:List AV} {vs:List Value},Rl S G w xs vs->vs.length=xs.length
 | [],_,h=>by simp only[Rl]at h;subst h;rfl
 | x::xs,_,h=>by
  simp only[Rl]at h;obtain⟨v,r,rfl,_,h2⟩:=h;simp[h2.length]
theorem Rl.get:∀{xs:List AV} {vs:List Value},Rl S G w xs vs->∀{i:Nat} {x:AV},xs[i]? = some x->∃v,vs[i]? = some v/\Rv S G w x v
 | [],_,_,i,x,hx=>by simp at hx
 | y::xs,_,h,i,x,hx=>by
  simp only[Rl]at h;obtain⟨v,r,rfl,h1,h2⟩:=h;cases i with
  | zero=>simp at hx;subst hx;exact⟨v,by simp,h1⟩
  | succ i=>simp at hx;obtain⟨u,hu,hr⟩:=h2.get hx;exact⟨u,by simpa using hu,hr⟩
theorem Rl.take:∀{xs:List AV} {vs:List Value} (n:Nat),Rl S G w xs vs->Rl S G w (xs.take n) (vs.take n)
 | [],_,n,h=>by simp only[Rl]at h;subst h;simp[Rl]
 | x::xs,_,n,h=>by
  simp only[Rl]at h;obtain⟨v,r,rfl,h1,h2⟩:=h;cases n with
  | zero=>simp[Rl]
  | succ n=>simp only[List.take_succ_cons,Rl];exact⟨v,_,rfl,h1,h2.take n⟩
theorem Rl.drop:∀{xs:List AV} {vs:List Value} (n:Nat),Rl S G w xs vs->Rl S G w (xs.drop n) (vs.drop n)
 | [],_,n,h=>by simp only[Rl]at h;subst h;simp[Rl]
 | x::xs,_,n,h=>by
  simp only[Rl]at h;obtain⟨v,r,rfl,h1,h2⟩:=h;cases n with
  | zero=>simp only[List.drop_zero,Rl];exact⟨v,r,rfl,h1,h2⟩
  | succ n=>simp only[List.drop_succ_cons];exact h2.drop n
theorem Rl.append:∀{xs:List AV} {vs:List Value} {ys:List AV} {us:List Value},Rl S G w xs vs->Rl S G w ys us->Rl S G w (xs++ys) (vs++us)
 | [],_,_,_,h,k=>by simp only[Rl]at h;subst h;simpa using k
 | x::xs,_,_,_,h,k=>by
  simp only[Rl]at h;obtain⟨v,r,rfl,h1,h2⟩:=h;simp only[List.cons_append,Rl];exact⟨v,_,rfl,h1,h2.append k⟩
theorem Rl.cut {xs:List AV}{vs:List Value}(h:Rl S G w xs vs){off sz:Nat}{cs:List AV}(hc:cut xs off sz=some cs) :
  off+sz<=xs.length/\cs.length=sz/\Rl S G w cs ((vs.drop off).take sz):=by
 unfold Dn.cut at hc;cases hb:Nat.ble (off+sz) xs.length with
 | false=>rw[hb]at hc;cases hc
 | true =>
  rw[hb]at hc;simp only[cond_true,oI]at hc;subst hc;have:=bL hb;exact⟨this,by simp;omega,(h.drop off).take sz⟩
theorem Rl.nil:Rl S G w [] []:=by simp[Rl]
theorem Rl.single {x:AV}{v:Value}(h:Rv S G w x v):Rl S G w [x] [v]:=by simp only[Rl];exact⟨v,[],rfl,h,rfl⟩
theorem Rl.cons {x:AV}{v:Value}{xs:List AV}{vs:List Value}(h:Rv S G w x v)(k:Rl S G w xs vs):Rl S G w (x::xs) (v::vs):=by simp only[Rl];exact⟨v,vs,rfl,h,k⟩
theorem Rv.not_agg {x:AV}{v:Value}(h:Rv S G w x v)(hx:∀cs,x≠.agg cs):∀cs,v≠.agg cs:=by
 intro cs e;subst e;cases x<;>simp only[Rv]at h
 case undef=>simp[undef]at h
 case bool=>cases h
 case int=>cases h
 case str=>cases h
 case nilp=>cases h
 case ptr=>cases h.2
 case gptr=>cases h
 case anyp=>obtain⟨p,h⟩:=h;cases h
 case eptr=>obtain⟨p,len,cap,_,_,_,h⟩:=h;cases h
 case sl=>obtain⟨p,len,cap,h,_⟩:=h;cases h
 case fn=>obtain⟨p,b,h,_⟩:=h;cases h
 case nilfn=>cases h
 case ifc=>obtain⟨p,h,_⟩:=h;cases h
 case nilif=>cases h
 case agg cs'=>exact hx cs' rfl
 case tup=>obtain⟨p,h,_⟩:=h;cases h
 case nilmap=>cases h
 case map=>cases h.2
 case raw=>obtain⟨h,h'⟩:=h;subst h;simp[oneCell]at h'
theorem Value.cells_of_not_agg {v:Value}(h:∀cs,v≠.agg cs):v.cells = #[v]:=by
 cases v<;>first | rfl | exact absurd rfl (h _)
theorem Rv.cells {x:AV}{v:Value}(h:Rv S G w x v):Rl S G w x.cells v.cells.toList:=by
 by_cases hx:∃cs,x=.agg cs
 ·obtain⟨cs,rfl⟩:=hx;simp only[Rv]at h;obtain⟨vs,rfl,h⟩:=h;exact h
 ·have hx':∀cs,x≠.agg cs:=λcs e=>hx ⟨cs,e⟩;have hc:x.cells=[x]:=by cases x<;>first | rfl | exact absurd rfl (hx' _)
  rw[hc,Value.cells_of_not_agg (h.not_agg hx')];exact Rl.single h
theorem Rv.cells_size {x:AV}{v:Value}(h:Rv S G w x v):v.cells.size=x.cells.length:=by
 have:=h.cells.length;simpa using this
theorem Rl.mkv {cs:List AV}{vs:List Value}{agg:Bool}{x:AV}(h:Rl S G w cs vs)(hm:mkv agg cs=some x) :
  (agg=true/\Rv S G w x (.agg ⟨vs⟩))\/(agg=false/\∃v,vs=[v]/\Rv S G w x v):=by
 unfold Dn.mkv at hm;cases agg with
 | true=>simp only[cond_true,oI]at hm;subst hm;refine .inl ⟨rfl,?_⟩;simp only[Rv];exact⟨vs,rfl,h⟩
 | false =>
  simp only[cond_false]at hm;cases cs with
  | nil=>simp at hm
  | cons c r =>
   cases r with
   | cons c' r'=>simp at hm
   | nil =>
    cases hn:notAgg c with
    | false=>simp[hn]at hm
    | true =>
    simp only[hn,cond_true,oI]at hm;subst hm;simp only[Rl]at h;obtain⟨v,r,rfl,h1,rfl⟩:=h;exact .inr ⟨rfl,v,rfl,h1⟩
theorem mkv_cells {agg:Bool}{cs:List AV}{x:AV}(h:mkv agg cs=some x):x.cells=cs:=by
 unfold Dn.mkv at h;cases agg with
 | true=>simp only[cond_true,oI]at h;subst h;rfl
 | false =>
  simp only[cond_false]at h;split at h
  ·rename_i c;cases hn:notAgg c with
   | false=>rw[hn]at h;cases h
   | true =>
    rw[hn]at h;simp only[cond_true,oI]at h;subst h;cases c<;>first | rfl | (simp[notAgg]at hn)
  ·cases h
theorem Rv.one {x:AV}{v:Value}(h:Rv S G w x v)(hx:ok1 x=true):v.oneCell'=true:=by
 cases x<;>simp only[Rv]at h<;>simp only[ok1,Bool.false_eq_true]at hx
 case bool=>subst h;rfl
 case int=>subst h;rfl
 case str=>subst h;rfl
 case nilp=>subst h;rfl
 case ptr=>rw[h.2];rfl
 case gptr=>subst h;rfl
 case anyp=>obtain⟨p,rfl⟩:=h;rfl
 case eptr=>obtain⟨p,len,cap,_,_,_,rfl⟩:=h;rfl
 case sl=>obtain⟨p,len,cap,rfl,_⟩:=h;rfl
 case fn=>obtain⟨p,b,rfl,_⟩:=h;rfl
 case nilfn=>subst h;rfl
 case ifc=>obtain⟨p,rfl,_⟩:=h;rfl
 case nilif=>subst h;rfl
 case nilmap=>subst h;rfl
 case map=>rw[h.2];rfl
 case raw=>obtain⟨rfl,h'⟩:=h;cases v<;>simp[oneCell]at h'<;>rfl
theorem Rl.one:∀{xs:List AV} {vs:List Value},Rl S G w xs vs->xs.all ok1=true->∀v∈vs,v.oneCell'=true
 | [],_,h,_=>by simp only[Rl]at h;subst h;simp
 | x::xs,_,h,hx=>by
  simp only[Rl]at h;obtain⟨v,r,rfl,h1,h2⟩:=h;simp only[List.all_cons,bA]at hx;intro u hu;rcases List.mem_cons.1 hu with rfl | hu
  ·exact h1.one hx.1
  ·exact h2.one hx.2 u hu
end rl
section run
variable {P:Program}{w:World}
theorem run_ldC {b off:Nat}(vs:List Value)(h:∀j,j<vs.length->w.cell? ⟨b,off+j,none⟩=vs[j]?) :
  (loadCells ⟨b,off,none⟩ vs.length).run P w=.ok ⟨vs⟩ w:=by
 refine run_loadCells_list w ⟨b,off,none⟩ vs λj v hj=>?_;have hlt:j<vs.length:=by
  rcases Nat.lt_or_ge j vs.length with h' | h'
  ·exact h'
  ·rw[List.getElem?_eq_none h']at hj;cases hj
 rw[add_none,h j hlt,hj]
theorem run_isAgg {t:TypeId}{g:Bool}(h:isAggP P t=some g):(isAgg t).run P w=.ok g w:=by
 unfold isAggP at h;unfold isAgg;cases hu:P.underlying t with
 | none=>rw[hu]at h;cases h
 | some d =>
  rw[hu]at h;simp only[Sem.run_bind,run_underlying hu,Result.andThen_ok];cases d<;>simp at h<;>subst h<;>rfl
theorem run_sizeP {t:TypeId}{n:Nat}(h:sizeP P t=some n):(sizeOf t).run P w=.ok n w:=by
 unfold sizeP at h;cases hi:P.info? t with
 | none=>rw[hi]at h;cases h
 | some i =>
  rw[hi]at h;simp only[Option.map_some,oI]at h;simp[sizeOf,typeInfo,hi,h]
theorem run_loadVar {b off:Nat}{t:TypeId}{g:Bool}(vs:List Value)(hg:isAggP P t=some g)(hs:sizeP P t=some vs.length)(hgs:g=true\/vs.length=1)(h:∀j,j<vs.length->w.cell? ⟨b,off+j,none⟩=vs[j]?) :
  ∃v,(loadVar t ⟨b,off,none⟩).run P w=.ok v w/\((g=true/\v=.agg ⟨vs⟩)\/(g=false/\vs=[v])):=by
 unfold loadVar;simp only[Sem.run_bind,run_isAgg hg,Result.andThen_ok];cases g with
 | true =>
  refine⟨.agg ⟨vs⟩,?_,.inl ⟨rfl,rfl⟩⟩;simp[run_sizeP hs,run_ldC vs h]
 | false =>
  have h1:vs.length=1:=hgs.resolve_left (by simp);obtain⟨v,rfl⟩:∃v,vs=[v]:=List.length_eq_one_iff.1 h1;have:=h 0 (by simp);simp only[Nat.add_zero,List.getElem?_cons_zero]at this;exact⟨v,by simp[this],.inr ⟨rfl,rfl⟩⟩
def spl (l:List Value)(off:Nat)(new:List Value):List Value:=l.take off++new++l.drop (off+new.length)
theorem spl_nil (l:List Value)(off:Nat):spl l off []=l:=by simp[spl]
theorem spl_length {l:List Value}{off:Nat}{new:List Value}(h:off+new.length<=l.length):(spl l off new).length=l.length:=by
 simp[spl];omega
theorem spl_get {l:List Value}{off:Nat}{new:List Value}(h:off+new.length<=l.length)(i:Nat) :
  (spl l off new)[i]? = if i<off then l[i]? else if i<off+new.length then new[i-off]? else l[i]?:=by
 unfold spl;have hl:(l.take off).length=off:=by simp;omega
 by_cases h1:i<off
 ·rw[if_pos h1,aA,List.getElem?_append_left (by omega),List.getElem?_take_of_lt h1]
 ·rw[if_neg h1];by_cases h2:i<off+new.length
  ·rw[if_pos h2,aA,List.getElem?_append_right (by omega),hl,List.getElem?_append_left (by omega)]
  ·rw[if_neg h2,List.getElem?_append_right (by simp;omega)];simp only[lA,hl,List.getElem?_drop]
   congr 1;omega
theorem spl_step {l:List Value}{off:Nat}{v:Value}{rest:List Value}(h:off+(v::rest).length<=l.length):spl (l.set off v) (off+1) rest=spl l off (v::rest):=by
 simp only[lC]at h;apply List.ext_getElem?
 intro i;rw[spl_get (by simp;omega),spl_get (by simp;omega)];simp only[lC,List.getElem?_set];by_cases h1:i<off
 ·rw[if_pos (by omega),if_pos h1,if_neg (by omega)]
 ·by_cases h2:i=off
  ·subst h2;rw[if_pos (by omega),if_pos rfl,if_pos (by omega),if_neg h1,if_pos (by omega)];simp
  ·rw[if_neg (by omega),if_neg h1];by_cases h3:i<off+1+rest.length
   ·rw[if_pos h3,if_pos (by omega)];rw[show i-off=(i-(off+1))+1 by omega];simp
   ·rw[if_neg h3,if_neg (by omega),if_neg (by omega)]
theorem run_stC (P:Program)(b off:Nat)(ty:TypeId)(fr:Nat×Nat):∀(vs:List Value) (i:Nat) (cur:List Value) (w:World),w.heap[b]? = some (.cells ⟨cur⟩ ty fr)->off+i+vs.length<=cur.length ->
  (∀k,k<cur.length->(decide (fr.1<=k) && decide (k<fr.2))=false)->(∀v∈vs,v.oneCell'=true) ->
  (storeCells ⟨b,off,none⟩ vs i).run P w=.ok () (wBlk w b (.cells ⟨spl cur (off+i) vs⟩ ty fr))
 | [],i,cur,w,hw,_,_,_=>by
  have:wBlk w b (.cells ⟨spl cur (off+i) []⟩ ty fr)=w:=by
   rw[spl_nil];have hlt:=lt_of_some hw;have:w.heap.setIfInBounds b (.cells ⟨cur⟩ ty fr)=w.heap:=by
    apply Array.ext_getElem?
    intro j;by_cases e:j=b
    ·subst e;rw[hw];simp[hlt]
    ·rw[Array.getElem?_setIfInBounds_ne (Ne.symm e)]
   simp only[wBlk,this]
  rw[this];rfl
 | v::rest,i,cur,w,hw,hl,hf,h1=>by
  have hi:off+i<cur.length:=by simp at hl;omega
  have hlt:=lt_of_some hw;have hcell:w.cell? ⟨b,off+i,none⟩=some cur[off+i]:=by simp[World.cell?,hw,hi]
  have hfro:w.frozen? ⟨b,off+i,none⟩=false:=by simp only[World.frozen?,hw];exact hf _ hi
  have hset:w.setCell ⟨b,off+i,none⟩ v=wBlk w b (.cells ⟨cur.set (off+i) v⟩ ty fr):=by
   simp only[World.setCell,wBlk]
   congr 1
   apply Array.ext_getElem?
   intro j;by_cases e:j=b
   ·subst e;rw[Array.getElem?_modify,if_pos rfl,hw];simp[hlt,Array.setIfInBounds,hi]
   ·rw[Array.getElem?_setIfInBounds_ne (Ne.symm e),Array.getElem?_modify,if_neg (Ne.symm e)]
  have hst:(store ((⟨b,off,none⟩:Addr).add i) v).run P w=.ok () (wBlk w b (.cells ⟨cur.set (off+i) v⟩ ty fr)):=by
   rw[add_none,run_store P w _ v _ (h1 v (by simp)),hcell];simp[hfro,hset]
  have ih:=run_stC P b off ty fr rest (i+1) (cur.set (off+i) v) (wBlk w b (.cells ⟨cur.set (off+i) v⟩ ty fr)) (wBlk_same _ hlt) (by simp at hl ⊢;omega) (by simpa using hf) (λx hx=>h1 x (by simp[hx]));simp only[storeCells,Sem.run_bind,hst,Result.andThen_ok,ih]
  congr 1
  rw[show off+(i+1)=off+i+1 by omega,spl_step (by simp at hl ⊢;omega)];simp[wBlk]
end run

structure Orig where
  S:St
  G:Gh
  w:World
  N:Lim
  pv:Nat→Value
  dfs:List (FuncId×List AV)
def EntR (O:Orig) (S:St) (G:Gh) (w:World) (a:Act) (fb:Nat→Nat) (s:Nat):Ent→Prop
  |.val x=>∃v,a.tmps[s]? = some v∧Rv S G w x v
  |.box cs=>a.tmps[s]? = some (.pointer (some ⟨fb s,0,none⟩))∧O.w.heap.size≤fb s∧¬Own S G (fb s)∧¬G.st (fb s)∧∃vs ty,w.heap[fb s]? = some (.cells ⟨vs⟩ ty (0,0))∧Rl S G w cs vs
  |.adr t off=>a.tmps[s]? = some (.pointer (some ⟨fb t,off,none⟩))
  |.unk=>True
structure FR (O:Orig) (S:St) (G:Gh) (w:World) (env:Env) (a:Act) (fb:Nat→Nat):Prop where
  ent:∀s e,lk env s=some e→EntR O S G w a fb s e
  inj:∀s s' cs cs',lk env s=some (.box cs)→lk env s'=some (.box cs')→s≠s'→fb s≠fb s'
def DfR (S:St) (G:Gh) (w:World):List (FuncId×List AV)→List Deferred→Prop
  | [],ds=>ds=[]
  | (f,xs)::r,ds=>∃as bs ds',ds={ target:=.fn (.func f) ⟨bs⟩,args:=⟨as⟩ }::ds'∧Rl S G w xs (as++bs)∧DfR S G w r ds'
theorem DfR.mono {S:St} {G:Gh} {w:World} {S':St} {G':Gh} {w':World} (h:Ext S G w S' G' w'):∀{l:List (FuncId×List AV)} {ds:List Deferred},DfR S G w l ds→DfR S' G' w' l ds
  | [],_,hx=>hx
  | (f,xs)::r,_,⟨as,bs,ds',e,h1,h2⟩=>⟨as,bs,ds',e,Rl.mono h _ _ h1,DfR.mono h h2⟩
structure Good (P:Program) (gt:GT) (O:Orig) (S:St) (G:Gh) (w:World) (env:Env) (a:Act):Prop where
  inv:Inv P gt S G w
  fr:∃fb,FR O S G w env a fb
  ext:Ext O.S O.G O.w S G w
  keep:Keep O.w.heap.size O.S O.G O.w w
  defers:DfR S G w O.dfs a.defers
  size:a.tmps.size=O.N.n
  pin:∀t∈O.N.pin,a.tmps[t]? = some (O.pv t)
section
variable {P:Program} {gt:GT} {O:Orig} {S:St} {G:Gh} {w:World} {env:Env} {a:Act}
theorem Good.step {S':St} {G':Gh} {w':World} (h:Good P gt O S G w env a) (t:Tr P gt S G w S' G' w'):Good P gt O S' G' w' env a:=by
  obtain⟨fb,hf⟩:=h.fr
  refine⟨t.inv,⟨fb,⟨fun s e he=>?_,hf.inj⟩⟩,h.ext.trans t.ext,fun b hb ho=>?_,h.defers.mono t.ext,h.size,h.pin⟩
  · have:=hf.ent s e he
    cases e with
    | val x=>obtain⟨v,h1,h2⟩:=this;exact⟨v,h1,h2.mono t.ext⟩
    | box cs =>
      obtain⟨h1,h2,h3,h4,vs,ty,h5,h6⟩:=this
      have hlt:=lt_of_some h5
      exact⟨h1,h2,fun o=>h3 (t.ext.own _ hlt o),fun s=>h4 (t.ext.stNew _ hlt s),vs,ty,by rw [t.keep _ hlt h3];exact h5,h6.mono t.ext⟩
    | adr t' off=>exact this
    | unk=>trivial
  · rw [t.keep b (Nat.lt_of_lt_of_le hb h.ext.size) (fun o=>ho (h.ext.own b hb o)),h.keep b hb ho]
theorem put_get {a:Act} {d:Nat} {v:Value} (hd:d<a.tmps.size) (s:Nat):(a.put (some d) v).tmps[s]? = if s=d then some v else a.tmps[s]?:=by
  simp only [Act.put]
  by_cases e:s=d
  · subst e;simp [hd]
  · rw [if_neg e,Array.getElem?_setIfInBounds_ne (Ne.symm e)]
theorem Good.putE (h:Good P gt O S G w env a) {d:Nat} (hd:O.N.ok d) {v:Value} {e:Ent} (hv:∀fb,FR O S G w env a fb→match e with
    |.val x=>Rv S G w x v
    |.adr t off=>v=.pointer (some ⟨fb t,off,none⟩)
    |.box _=>False
    |.unk=>True):Good P gt O S G w ((d,e)::env) (a.put (some d) v):=by
  obtain⟨fb,hf⟩:=h.fr
  have hd':d<a.tmps.size:=by rw [h.size];exact hd.1
  refine⟨h.inv,⟨fb,⟨fun s e' he=>?_,fun s s' cs cs' h1 h2 hne=>?_⟩⟩,h.ext,h.keep,h.defers,by rw [←h.size];simp [Act.put],fun t ht=>by rw [put_get hd',if_neg (hd.2 t ht)];exact h.pin t ht⟩
  · rw [lk_cons] at he
    by_cases es:d=s
    · subst es
      rw [if_pos rfl] at he
      cases he
      have:=hv fb hf
      cases e with
      | val x=>exact⟨v,by rw [put_get hd',if_pos rfl],this⟩
      | adr t off=>simp only [EntR];rw [put_get hd',if_pos rfl,this]
      | box cs=>exact this.elim
      | unk=>trivial
    · rw [if_neg es] at he
      have:=hf.ent s e' he
      have hp:(a.put (some d) v).tmps[s]? = a.tmps[s]?:=by rw [put_get hd',if_neg (Ne.symm es)]
      cases e' with
      | val x=>obtain⟨u,h1,h2⟩:=this;exact⟨u,by rw [hp];exact h1,h2⟩
      | box cs=>obtain⟨h1,h2⟩:=this;exact⟨by rw [hp];exact h1,h2⟩
      | adr t off=>simp only [EntR] at this ⊢;rw [hp];exact this
      | unk=>trivial
  · rw [lk_cons] at h1 h2
    by_cases e1:d=s
    · rw [if_pos e1] at h1;cases h1;exact (hv fb hf).elim
    · by_cases e2:d=s'
      · rw [if_pos e2] at h2;cases h2;exact (hv fb hf).elim
      · rw [if_neg e1] at h1;rw [if_neg e2] at h2;exact hf.inj s s' cs cs' h1 h2 hne
theorem Good.putV (h:Good P gt O S G w env a) {dst:Option Nat} (hd:∀d,dst=some d→O.N.ok d) {v:Value} {x:AV} (hv:Rv S G w x v):Good P gt O S G w (putV dst x env) (a.put dst v):=by
  cases dst with
  | none=>exact h
  | some d=>exact h.putE (hd d rfl) (e:=.val x) fun _ _=>hv
theorem lk_kill (s:Nat):∀(env:Env) (k:Nat),lk (kill s env) k=(lk env k).map fun e=>match e with
    |.adr t o=>if t=s then .unk else .adr t o
    | e=>e
  | [],k=>by simp [kill,lk]
  | (k',e)::r,k=>by
    have ih:=lk_kill s r k
    cases e with
    | adr t o =>
      by_cases ht:t=s
      · subst ht
        simp only [kill,Nat.beq_refl,cond_true,lk_cons,ih]
        split<;>simp
      · have:Nat.beq t s=false:=by
          cases hb:Nat.beq t s
          · rfl
          · exact absurd (bE hb) ht
        simp only [kill,this,cond_false,lk_cons,ih]
        split<;>simp [ht]
    | val x=>simp only [kill,lk_cons,ih];split<;>simp
    | box x=>simp only [kill,lk_cons,ih];split<;>simp
    | unk=>simp only [kill,lk_cons,ih];split<;>simp
theorem Good.putBox (h:Good P gt O S G w env a) {d:Nat} (hd:O.N.ok d) {cs:List AV} {vs:List Value} (ty:TypeId) (hc:Rl S G w cs vs) :
    Good P gt O S G { w with heap:=w.heap.push (.cells ⟨vs⟩ ty (0,0)) } ((d,.box cs)::kill d env) (a.put (some d) (.pointer (some ⟨w.heap.size,0,none⟩))):=by
  have hg:=Gr.push w (.cells ⟨vs⟩ ty (0,0))
  have ht:=Tr.gr h.inv hg
  have h':=h.step ht
  have hnew:¬Own S G w.heap.size:=by
    rintro (⟨id,hi,he⟩ | ⟨id,hi,he⟩ | ⟨id,hi,he⟩)
    · have:=h.inv.boxLt id hi;omega
    · have:=h.inv.tokLt id hi;omega
    · have:=h.inv.mapLt id hi;omega
  have hst:¬G.st w.heap.size:=fun hs=>by have:=h.inv.stLt _ hs;omega
  obtain⟨fb,hf⟩:=h.fr
  have hd':d<a.tmps.size:=by rw [h.size];exact hd.1
  have hext:Ext S G w S G { w with heap:=w.heap.push (.cells ⟨vs⟩ ty (0,0)) }:=Ext.of_gr h.inv hg
  refine⟨h'.inv,⟨upd fb d w.heap.size,⟨fun s e he=>?_,fun s s' c c' h1 h2 hne=>?_⟩⟩,h'.ext,h'.keep,h'.defers,by rw [←h.size];simp [Act.put],fun t ht=>by rw [put_get hd',if_neg (hd.2 t ht)];exact h.pin t ht⟩
  · rw [lk_cons] at he
    by_cases es:d=s
    · subst es
      rw [if_pos rfl] at he
      cases he
      exact⟨by rw [put_get hd',if_pos rfl,upd_same],by rw [upd_same];exact h.ext.size,by rw [upd_same];exact hnew,by rw [upd_same];exact hst,vs,ty,by rw [upd_same];simp,hc.mono hext⟩
    · rw [if_neg es,lk_kill] at he
      have hp:∀v,(a.put (some d) v).tmps[s]? = a.tmps[s]?:=fun v=>by rw [put_get hd',if_neg (Ne.symm es)]
      cases hk:lk env s with
      | none=>rw [hk] at he;cases he
      | some e0 =>
        rw [hk] at he
        have:=hf.ent s e0 hk
        cases e0 with
        | val x =>
          simp only [Option.map_some,oI] at he;subst he
          obtain⟨u,h1,h2⟩:=this
          exact⟨u,by rw [hp];exact h1,h2.mono hext⟩
        | box c =>
          simp only [Option.map_some,oI] at he;subst he
          obtain⟨h1,h2,h3,h4,vs',ty',h5,h6⟩:=this
          have hne:s≠d:=Ne.symm es
          simp only [EntR,upd_ne _ _ hne]
          refine⟨by rw [hp];exact h1,h2,h3,h4,vs',ty',?_,h6.mono hext⟩
          rw [hg.same _ (lt_of_some h5)];exact h5
        | adr t off =>
          simp only [Option.map_some,oI] at he
          by_cases et:t=d
          · rw [if_pos et] at he;subst he;trivial
          · rw [if_neg et] at he;subst he
            simp only [EntR] at this ⊢
            rw [hp,upd_ne _ _ et];exact this
        | unk=>simp only [Option.map_some,oI] at he;subst he;trivial
  · have old:∀s c,d≠s→lk ((d,.box cs)::kill d env) s=some (.box c)→lk env s=some (.box c):=fun s c es hh=>by
      rw [lk_cons,if_neg es,lk_kill] at hh
      cases hk:lk env s with
      | none=>rw [hk] at hh;cases hh
      | some e0 =>
        rw [hk] at hh
        cases e0 with
        | adr t off=>simp only [Option.map_some,oI] at hh;split at hh<;>cases hh
        | val x=>simp only [Option.map_some,oI] at hh;cases hh
        | box c'=>simp only [Option.map_some,oI] at hh;rw [hh]
        | unk=>simp only [Option.map_some,oI] at hh;cases hh
    have lt:∀s c,lk env s=some (.box c)→fb s<w.heap.size:=fun s c hk=>by
      obtain⟨_,_,_,_,vs',ty',h5,_⟩:=hf.ent s _ hk
      exact lt_of_some h5
    by_cases e1:d=s
    · have e2:d≠s':=fun q=>hne (e1.symm.trans q)
      have:=lt s' c' (old s' c' e2 h2)
      subst e1;rw [upd_same,upd_ne _ _ (Ne.symm e2)];omega
    · by_cases e2:d=s'
      · have:=lt s c (old s c e1 h1)
        subst e2;rw [upd_same,upd_ne _ _ (Ne.symm e1)];omega
      · rw [upd_ne _ _ (Ne.symm e1),upd_ne _ _ (Ne.symm e2)]
        exact hf.inj s s' c c' (old s c e1 h1) (old s' c' e2 h2) hne
theorem local_step (hI:Inv P gt S G w) {b:Nat} {c c':Array Value} {ty:TypeId} {fr:Nat×Nat} (ho:¬Own S G b) (hs:¬G.st b) (hw:w.heap[b]? = some (.cells c ty fr)) (hc:c'.size=c.size) :
    Inv P gt S G (wBlk w b (.cells c' ty fr))∧Ext S G w S G (wBlk w b (.cells c' ty fr)):=by
  have hτ:∀t,t<S.nt→G.τ t≠b:=fun t ht e=>ho (.inr (.inl ⟨t,ht,e⟩))
  have hβ:∀id,id<S.nb→G.β id≠b:=fun t ht e=>ho (.inl ⟨t,ht,e⟩)
  have hμ:∀id,id<S.nm→G.μ id≠b:=fun t ht e=>ho (.inr (.inr ⟨t,ht,e⟩))
  have hst:∀b',G.st b'→b'≠b:=fun b' hb' e=>hs (e ▸ hb')
  have hext:Ext S G w S G (wBlk w b (.cells c' ty fr)) :=
    { (Ext.refl:Ext S G w S G w) with
      size:=by rw [wBlk_size];exact nR _
      st:=fun b' hb'=>⟨hb',wBlk_ne _ (hst b' hb')⟩
      shape:=wBlk_shape hw hc
      sea:=fun t ht _ _=>⟨nR _,fun i _=>by simp only [World.cell?,wBlk_ne _ (hτ t ht)]⟩
      moved:=fun t b o _ h h'=>by rw [h] at h';cases h' }
  refine⟨?_,hext⟩
  exact
    { boxLt:=fun i hi=>by rw [wBlk_size];exact hI.boxLt i hi
      tokLt:=fun i hi=>by rw [wBlk_size];exact hI.tokLt i hi
      mapLt:=fun i hi=>by rw [wBlk_size];exact hI.mapLt i hi
      stLt:=fun i hi=>by rw [wBlk_size];exact hI.stLt i hi
      stOwn:=hI.stOwn
      box:=fun i ty' cs'' hh=>by
        obtain⟨h1,c'',fr',sf,pre,rest,h2,h3,h4,h5⟩:=hI.box i ty' cs'' hh
        exact⟨h1,c'',fr',sf,pre,rest,by rw [wBlk_ne _ (hβ i h1)];exact h2,h3,h4,h5.mono hext⟩
      boxInj:=hI.boxInj
      boxTok:=hI.boxTok
      map:=fun i hi=>by
        obtain⟨es,ents,clk,h1,h2,h3⟩:=hI.map i hi
        exact⟨es,ents,clk,h1,by rw [wBlk_ne _ (hμ i hi)];exact h2,h3.mono hext⟩
      mapInj:=hI.mapInj
      tip:=fun t n ty' sf ht=>by
        obtain⟨h1,h2⟩:=hI.tip t n ty' sf ht
        refine⟨h1,fun hv=>?_⟩
        obtain⟨es,c'',fr',e1,e2,e3⟩:=h2 hv
        exact⟨es,c'',fr',e1,by rw [wBlk_ne _ (hτ t h1)];exact e2,e3⟩
      tipInj:=hI.tipInj
      line:=hI.line
      lnLt:=hI.lnLt
      kBox:=hI.kBox
      kMap:=hI.kMap
      kMv:=hI.kMv
      kTip:=hI.kTip
      kDl:=hI.kDl
      glob:=fun g cs hgl=>by
        obtain⟨h1,c,ty,fr,h2,h3⟩:=hI.glob g cs hgl
        exact⟨h1,c,ty,fr,by rw [wBlk_ne _ (hst g h1)];exact h2,h3.mono hext⟩ }
theorem Good.stLocal (h:Good P gt O S G w env a) {t:Nat} {cs cs':List AV} {vs vs':List Value} {ty:TypeId} {fb:Nat→Nat} (hf:FR O S G w env a fb) (ht:lk env t=some (.box cs))
    (hw:w.heap[fb t]? = some (.cells ⟨vs⟩ ty (0,0))) (hl:vs'.length=vs.length) (hr:Rl S G w cs' vs') :
    Good P gt O S G (wBlk w (fb t) (.cells ⟨vs'⟩ ty (0,0))) ((t,.box cs')::env) a:=by
  obtain⟨g1,g2,g3,g4,_,_,_,_⟩:=hf.ent t _ ht
  have hlt:=lt_of_some hw
  obtain⟨hI,hext⟩:=local_step (c':=⟨vs'⟩) h.inv g3 g4 hw (by simpa using hl)
  refine⟨hI,⟨fb,⟨fun s e he=>?_,fun s s' c c' h1 h2 hne=>?_⟩⟩,h.ext.trans hext,fun b hb ho=>?_,h.defers.mono hext,h.size,h.pin⟩
  · rw [lk_cons] at he
    by_cases es:t=s
    · subst es
      rw [if_pos rfl] at he
      cases he
      exact⟨g1,g2,g3,g4,vs',ty,wBlk_same _ hlt,hr.mono hext⟩
    · rw [if_neg es] at he
      have:=hf.ent s e he
      cases e with
      | val x=>obtain⟨u,h1,h2⟩:=this;exact⟨u,h1,h2.mono hext⟩
      | box c =>
        obtain⟨h1,h2,h3,h4,vs',ty',h5,h6⟩:=this
        exact⟨h1,h2,h3,h4,vs',ty',by rw [wBlk_ne _ (hf.inj s t _ _ he ht (Ne.symm es))];exact h5,h6.mono hext⟩
      | adr t' off=>exact this
      | unk=>trivial
  · have old:∀s c,lk ((t,.box cs')::env) s=some (.box c)→∃c0,lk env s=some (.box c0):=fun s c hh=>by
      rw [lk_cons] at hh
      by_cases es:t=s
      · subst es;exact⟨_,ht⟩
      · rw [if_neg es] at hh;exact⟨_,hh⟩
    obtain⟨c1,k1⟩:=old s c h1
    obtain⟨c2,k2⟩:=old s' c' h2
    exact hf.inj s s' c1 c2 k1 k2 hne
  · rw [wBlk_ne _ (by omega)];exact h.keep b hb ho
theorem Good.forget (h:Good P gt O S G w env a) {env':Env} (he:∀s e,lk env' s=some e→lk env s=some e):Good P gt O S G w env' a:=by
  obtain⟨fb,hf⟩:=h.fr
  exact⟨h.inv,⟨fb,⟨fun s e hh=>hf.ent s e (he s e hh),fun s s' c c' h1 h2=>hf.inj s s' c c' (he _ _ h1) (he _ _ h2)⟩⟩,h.ext,h.keep,h.defers,h.size,h.pin⟩
theorem lk_keepE (env:Env):∀(ks:List Nat) (s:Nat) (e:Ent),lk (keepE env ks) s=some e→lk env s=some e
  | [],s,e,h=>by simp [keepE,lk] at h
  | k::r,s,e,h=>by
    have ih:=lk_keepE env r s e
    simp only [keepE] at h
    split at h
    · rename_i v hk
      rw [lk_cons] at h
      by_cases es:k=s
      · subst es;rw [if_pos rfl] at h;rw [hk];exact h
      · rw [if_neg es] at h;exact ih h
    · rename_i v hk
      rw [lk_cons] at h
      by_cases es:k=s
      · subst es;rw [if_pos rfl] at h;rw [hk];exact h
      · rw [if_neg es] at h;exact ih h
    · exact ih h
theorem Good.keepE (h:Good P gt O S G w env a) (ks:List Nat):Good P gt O S G w (keepE env ks) a:=h.forget (lk_keepE env ks)
end

section
variable {P:Program}{gt:GT}{O:Orig}{S:St}{G:Gh}{w:World}{env:Env}{a:Act}
theorem Rv.nilSl (es:Nat):Rv S G w (.sl es ⟨none,0,some 0,true⟩ []) (.slice none 0 0):=by
 simp only[Rv];refine⟨none,0,0,rfl,⟨rfl,nR _,by simp,λc hc=>by cases hc;rfl,λ_=>rfl,λp hp=>by cases hp⟩,λ_ p hp=>by cases hp⟩
theorem cell1_sound {es:Nat}{v:Value}{x:AV}(h:cell1 es v=some x):Rv S G w x v:=by
 unfold cell1 at h;split at h<;>cases h
 ·simp[Rv]
 ·simp[Rv]
 ·simp[Rv]
 ·simp[Rv]
 ·exact Rv.nilSl es
 ·simp[Rv]
 ·simp[Rv]
 ·simp[Rv]
theorem cellsC_sound:∀{es:List Nat} {vs:List Value} {xs:List AV},cellsC es vs=some xs->Rl S G w xs vs
 | [],[],xs,h=>by simp only[cellsC,oI]at h;subst h;exact Rl.nil
 | e::es,v::vs,xs,h=>by
  simp only[cellsC]at h;cases h1:cell1 e v with
  | none=>rw[h1]at h;cases h
  | some x =>
   cases h2:cellsC es vs with
   | none=>rw[h1,h2]at h;cases h
   | some r =>
    rw[h1,h2]at h;simp only[oI]at h;subst h;exact Rl.cons (cell1_sound h1) (cellsC_sound h2)
 | [],_::_,xs,h=>by simp[cellsC]at h
 | _::_,[],xs,h=>by simp[cellsC]at h
theorem constC_sound {t:TypeId}{v:Value}{x:AV}(h:constC P t v=some x):Rv S G w x v:=by
 unfold constC at h;split at h
 ·rename_i cs;cases h1:cellsC (cellEs P 12 t) cs.toList with
  | none=>rw[h1]at h;cases h
  | some xs =>
   rw[h1]at h;simp only[Option.map_some,oI]at h;subst h;simp only[Rv];exact⟨cs.toList,by simp,cellsC_sound h1⟩
 ·rename_i vs;split at h
  ·rename_i h0;cases h;simp only[Rv,undef];have:vs = #[]:=Array.eq_empty_of_size_eq_zero h0;rw[this]
  ·cases h
 ·exact cell1_sound h
theorem opd_sound {t:TypeId}{x:Operand}{d:DOpd}{v:AV}(hp:opdP P t x=some d)(h:opd env d=some v){fb:Nat->Nat}(hf:FR O S G w env a fb):Rv S G w v (a.eval x):=by
 cases x with
 | tmp n =>
  simp only[opdP,oI]at hp;subst hp;simp only[opd]at h;split at h
  ·rename_i u hk;cases h;obtain⟨u',h1,h2⟩:=hf.ent n _ hk;simp only[Act.eval,Array.getD_eq_getD_getElem?,h1,Option.getD_some];exact h2
  ·cases h
 | const c =>
  simp only[opdP]at hp;cases hc:constC P t c with
  | none=>rw[hc]at hp;cases hp
  | some y =>
   rw[hc]at hp;simp only[Option.map_some,oI]at hp;subst hp;simp only[opd,oI]at h;subst h;exact constC_sound hc
 | global g =>
  simp only[opdP,oI]at hp;subst hp;simp only[opd,oI]at h;subst h;simp[Rv,Act.eval]
 | func f =>
  simp only[opdP,oI]at hp;subst hp;simp only[opd,oI]at h;subst h;simp only[Rv,Act.eval];exact⟨[],[],rfl,Rl.nil,Rl.nil⟩
theorem opds_sound {fb:Nat->Nat}(hf:FR O S G w env a fb):∀{ts:List TypeId} {xs:List Operand} {ds:List DOpd} {vs:List AV},opdsP P ts xs=some ds->opds env ds=some vs->Rl S G w vs (xs.map a.eval)
 | [],[],ds,vs,hp,h=>by
  simp only[opdsP,oI]at hp;subst hp;simp only[opds,oI]at h;subst h;exact Rl.nil
 | t::ts,x::xs,ds,vs,hp,h=>by
  simp only[opdsP]at hp;cases h1:opdP P t x with
  | none=>rw[h1]at hp;cases hp
  | some d =>
   cases h2:opdsP P ts xs with
   | none=>rw[h1,h2]at hp;cases hp
   | some r =>
    rw[h1,h2]at hp;simp only[oI]at hp;subst hp;simp only[opds]at h;cases h3:opd env d with
    | none=>rw[h3]at h;cases h
    | some v =>
     cases h4:opds env r with
     | none=>rw[h3,h4]at h;cases h
     | some vs' =>
      rw[h3,h4]at h;simp only[oI]at h;subst h;exact Rl.cons (opd_sound h1 h3 hf) (opds_sound hf h2 h4)
 | [],_::_,_,_,hp,_=>by simp[opdsP]at hp
 | _::_,[],_,_,hp,_=>by simp[opdsP]at hp
def LocR (S:St)(G:Gh)(w:World)(fb:Nat->Nat)(p:Addr):Loc->Prop
 |.lc t off=>p=⟨fb t,off,none⟩
 |.hp id off=>id<S.nb/\p=⟨G.β id,off,none⟩
 |.gl g off=>p=⟨g,off,none⟩
 |.el es o xs i off=>Rv S G w (.eptr es o xs i off) (.pointer (some p))
theorem locV_sound {v:AV}{l:Loc}{u:Value}(h:locV v=some l)(hv:Rv S G w v u)(fb:Nat->Nat):∃p,u=.pointer (some p)/\LocR S G w fb p l:=by
 unfold locV at h;split at h<;>cases h
 ·simp only[Rv]at hv;exact⟨_,hv.2,hv.1,rfl⟩
 ·simp only[Rv]at hv;exact⟨_,hv,rfl⟩
 ·have:=hv;simp only[Rv]at hv;obtain⟨p,len,cap,h1,h2,h3,rfl⟩:=hv;exact⟨_,rfl,this⟩
theorem loc_sound {t:TypeId}{x:Operand}{d:DOpd}{l:Loc}(hp:opdP P t x=some d)(h:loc env d=some l){fb:Nat->Nat}(hf:FR O S G w env a fb):∃p,a.eval x=.pointer (some p)/\LocR S G w fb p l:=by
 cases x with
 | tmp n =>
  simp only[opdP,oI]at hp;subst hp;simp only[loc]at h;split at h
  ·rename_i cs hk;cases h;obtain⟨h1,_⟩:=hf.ent n _ hk;exact⟨_,by simp only[Act.eval,Array.getD_eq_getD_getElem?,h1,Option.getD_some],rfl⟩
  ·rename_i t' off hk;cases h;have h1:=hf.ent n _ hk;simp only[EntR]at h1;exact⟨_,by simp only[Act.eval,Array.getD_eq_getD_getElem?,h1,Option.getD_some],rfl⟩
  ·rename_i v hk;obtain⟨u,h1,h2⟩:=hf.ent n _ hk;obtain⟨p,hu,hl⟩:=locV_sound h h2 fb;exact⟨p,by simp only[Act.eval,Array.getD_eq_getD_getElem?,h1,Option.getD_some,hu],hl⟩
  ·cases h
 | const c =>
  simp only[opdP]at hp;cases hc:constC P t c with
  | none=>rw[hc]at hp;cases hp
  | some y=>rw[hc]at hp;simp only[Option.map_some,oI]at hp;subst hp;simp[loc]at h
 | global g =>
  simp only[opdP,oI]at hp;subst hp;simp only[loc,oI]at h;subst h;exact⟨_,rfl,rfl⟩
 | func f =>
  simp only[opdP,oI]at hp;subst hp;simp[loc]at h
theorem Rat.get {b es:Nat}:∀{xs:List AV} {off:Nat},Rat S G w b es xs off->∀{i:Nat} {x:AV},xs[i]? = some x ->
  ∃v,Rv S G w x v/\v.cells.size=es/\∀j,j<es->w.cell? ⟨b,off+i*es+j,none⟩=v.cells[j]?
 | [],_,_,i,x,hx=>by simp at hx
 | y::xs,off,h,i,x,hx=>by
  simp only[Rat]at h;obtain⟨⟨v,h1,h2,h3⟩,h4⟩:=h;cases i with
  | zero=>simp at hx;subst hx;exact⟨v,h1,h2,by simpa using h3⟩
  | succ i =>
   simp at hx;obtain⟨u,g1,g2,g3⟩:=h4.get hx;refine⟨u,g1,g2,λj hj=>?_⟩;rw[<-g3 j hj,show off+(i+1)*es+j=off+es+i*es+j by rw[Nat.add_mul];omega]
theorem Inv.boxCells (hI:Inv P gt S G w){id:Nat}{ty:TypeId}{cs:List AV}(h:lk S.boxes id=some (some (ty,cs))) :
  id<S.nb/\∃pre rest fr sf,w.heap[G.β id]? = some (.cells ⟨pre++rest⟩ ty fr)/\okFr fr (pre++rest).length sf/\Rl S G w cs pre:=by
 obtain⟨h1,c,fr,sf,pre,rest,h2,h3,h4,h5⟩:=hI.box id ty cs h;refine⟨h1,pre,rest,fr,sf,?_,?_,h5⟩
 ·rw[h2];congr;cases c;simp_all
 ·rw[<-h4];simpa using h3
theorem cell_pre {b:Nat}{pre rest:List Value}{ty:TypeId}{fr:Nat×Nat}(h:w.heap[b]? = some (.cells ⟨pre++rest⟩ ty fr)){k:Nat}(hk:k<pre.length):w.cell? ⟨b,k,none⟩=pre[k]?:=by
 simp[World.cell?,h,List.getElem?_append_left hk]
theorem ldC_sound (hI:Inv P gt S G w){fb:Nat->Nat}(hf:FR O S G w env a fb){sz:Nat}{l:Loc}{cs:List AV}{p:Addr}(h:ldC gt env S sz l=some cs)(hp:LocR S G w fb p l) :
  ∃vs,vs.length=sz/\p.spot=none/\(∀j,j<vs.length->w.cell? ⟨p.block,p.off+j,none⟩=vs[j]?)/\Rl S G w cs vs:=by
 have key:∀{xs:List AV} {pre:List Value} {b off:Nat},Rl S G w xs pre->cut xs off sz=some cs->(∀k,k<pre.length->w.cell? ⟨b,k,none⟩=pre[k]?) ->
   ∃vs:List Value,vs.length=sz/\(∀j,j<vs.length->w.cell? ⟨b,off+j,none⟩=vs[j]?)/\Rl S G w cs vs:=by
  intro xs pre b off hr hc hcell;obtain⟨h1,h2,h3⟩:=hr.cut hc;have hlen:=hr.length;refine⟨_,by simp;omega,λj hj=>?_,h3⟩;simp only[lT,lD]at hj;rw[hcell _ (by omega),List.getElem?_take_of_lt (by omega),List.getElem?_drop]
 cases l with
 | lc t off =>
  simp only[LocR]at hp;subst hp;simp only[ldC]at h;split at h
  ·rename_i c hk;obtain⟨_,_,_,_,vs,ty,h5,h6⟩:=hf.ent t _ hk;obtain⟨us,g1,g2,g3⟩:=key (b:=fb t) h6 h (λk hk=>by simp[World.cell?,h5]);exact⟨us,g1,rfl,g2,g3⟩
  ·cases h
 | hp id off =>
  simp only[LocR]at hp;obtain⟨hid,rfl⟩:=hp;simp only[ldC]at h;split at h
  ·rename_i ty c hk;obtain⟨_,pre,rest,fr,sf,h2,_,h3⟩:=hI.boxCells hk;obtain⟨us,g1,g2,g3⟩:=key (b:=G.β id) h3 h (λk hk=>cell_pre h2 hk);exact⟨us,g1,rfl,g2,g3⟩
  ·cases h
 | gl g off =>
  simp only[LocR]at hp;subst hp;simp only[ldC]at h;split at h
  ·rename_i c hk;obtain⟨_,c',ty,fr,h2,h3⟩:=hI.glob g _ hk;obtain⟨us,g1,g2,g3⟩:=key (b:=g) h3 h (λk hk=>by simp[World.cell?,h2]);exact⟨us,g1,rfl,g2,g3⟩
  ·cases h
 | el es o xs i off =>
  simp only[LocR,Rv]at hp;obtain⟨q,len,cap,hs,hr,hi,he⟩:=hp;cases he;simp only[ldC]at h;cases hc:elCells S es o xs i with
  | none=>rw[hc]at h;cases h
  | some c =>
   rw[hc]at h;have hcap:0<cap:=by have:=hs.1;have:=hs.2.1;omega
   have hel:∃us:List Value,Rl S G w c us/\us.length=es/\∀j,j<es->w.cell? ⟨q.block,q.off+i*es+j,none⟩=us[j]?:=by
    unfold elCells at hc;cases hrd:rd S o with
    | here =>
     rw[hrd]at hc;simp only at hc;cases hx:xs[i]? with
     | none=>rw[hx]at hc;cases hc
     | some x =>
      rw[hx]at hc;simp only[Option.map_some,oI]at hc;subst hc;obtain⟨v,h1,h2,h3⟩:=(hr hrd).get hx;exact⟨v.cells.toList,h1.cells,by simpa using h2,λj hj=>by rw[h3 j hj];simp⟩
    | box b boff =>
     rw[hrd]at hc;simp only at hc;split at hc
     ·rename_i ty bc hk;obtain⟨_,pre,rest,fr,sf,h2,_,h3⟩:=hI.boxCells hk;obtain⟨_,_,_,h5⟩:=hs.2.2.2.2.2 q rfl hcap;rw[hrd]at h5;obtain⟨e1,e2,e3⟩:=h5;obtain⟨k1,k2,k3⟩:=h3.cut hc;have hlen:=h3.length;refine⟨_,k3,by simp;omega,λj hj=>?_⟩;rw[e2,e3.1,show boff+o.off*es+i*es+j=boff+(o.off+i)*es+j by rw[Nat.add_mul];omega,cell_pre h2 (by omega),List.getElem?_take_of_lt hj,List.getElem?_drop]
     ·cases hc
    | no=>rw[hrd]at hc;cases hc
   obtain⟨us,k1,k2,k3⟩:=hel;obtain⟨g1,g2,g3⟩:=k1.cut h;have hlen:=k1.length;refine⟨_,?_,rfl,λj hj=>?_,g3⟩
   ·simp;omega
   ·simp only[lT,lD]at hj;rw[show q.off+i*es+off+j=q.off+i*es+(off+j) by omega,k3 _ (by omega),List.getElem?_take_of_lt (by omega),List.getElem?_drop]
theorem splice_Rl {cs:List AV}{pre:List Value}{new:List AV}{vs:List Value}(h:Rl S G w cs pre)(k:Rl S G w new vs)(off:Nat):Rl S G w (splice cs off new) (spl pre off vs):=by
 unfold splice spl;rw[k.length];exact((h.take off).append k).append (h.drop _)
theorem spl_append {pre rest:List Value}{off:Nat}{vs:List Value}(h:off+vs.length<=pre.length):spl (pre++rest) off vs=spl pre off vs++rest:=by
 unfold spl;rw[List.take_append_of_le_length (by omega),List.drop_append_of_le_length h];simp
theorem stBox_tr (hI:Inv P gt S G w){id:Nat}{ty:TypeId}{cs:List AV}(hk:lk S.boxes id=some (some (ty,cs))){off:Nat}{new:List AV}{vs:List Value}(hle:off+new.length<=cs.length)(hr:Rl S G w new vs)(h1:new.all ok1=true) :
  ∃w',(storeCells ⟨G.β id,off,none⟩ vs).run P w=.ok () w'/\Tr P gt S G w { S with boxes:=(id,some (ty,splice cs off new))::S.boxes } G w':=by
 obtain⟨hid,pre,rest,fr,sf,h2,h3,h4⟩:=hI.boxCells hk;have hl:=h4.length;have hv:=hr.length;have hrun:=run_stC P (G.β id) off ty fr vs 0 (pre++rest) w h2 (by simp;omega) (λk hk=>h3.free hk) (hr.one h1);rw[Nat.add_zero]at hrun;refine⟨_,hrun,?_⟩;rw[spl_append (by omega)];refine Tr.boxSet (c':=⟨spl pre off vs++rest⟩) hI hk h2 ?_ rfl (splice_Rl h4 hr off);have:=spl_length (l:=pre) (off:=off) (new:=vs) (by omega);simp[this]
theorem stBox_sound (h:Good P gt O S G w env a){id:Nat}{ty:TypeId}{cs:List AV}(hk:lk S.boxes id=some (some (ty,cs))){off:Nat}{new:List AV}{vs:List Value}(hle:off+new.length<=cs.length)(hr:Rl S G w new vs)(h1:new.all ok1=true) :
  ∃w',(storeCells ⟨G.β id,off,none⟩ vs).run P w=.ok () w'/\Good P gt O { S with boxes:=(id,some (ty,splice cs off new))::S.boxes } G w' env a:=by
 obtain⟨w',g1,g2⟩:=stBox_tr h.inv hk hle hr h1;exact⟨w',g1,h.step g2⟩
theorem stL_sound (h:Good P gt O S G w env a){fb:Nat->Nat}(hf:FR O S G w env a fb){l:Loc}{p:Addr}(hp:LocR S G w fb p l){new:List AV}{vs:List Value}(hr:Rl S G w new vs)(h1:new.all ok1=true){env':Env}{S':St}(hst:stL env S new l=some (env',S')) :
  ∃w' G',(storeCells p vs).run P w=.ok () w'/\Good P gt O S' G' w' env' a:=by
 have hv:=hr.length;cases l with
 | lc t off =>
  simp only[LocR]at hp;subst hp;simp only[stL]at hst;split at hst
  ·rename_i cs hk;cases hb:Nat.ble (off+new.length) cs.length with
   | false=>rw[hb]at hst;cases hst
   | true =>
    rw[hb]at hst;simp only[cond_true,oI,Prod.mk.injEq]at hst;obtain⟨rfl,rfl⟩:=hst;have hle:=bL hb;obtain⟨_,_,_,_,us,ty,h5,h6⟩:=hf.ent t _ hk;have hl:=h6.length;have hrun:=run_stC P (fb t) off ty (0,0) vs 0 us w h5 (by omega) (λk _=>by simp) (hr.one h1);rw[Nat.add_zero]at hrun;exact⟨_,G,hrun,h.stLocal hf hk h5 (spl_length (by omega)) (splice_Rl h6 hr off)⟩
  ·cases hst
 | hp id off =>
  simp only[LocR]at hp;obtain⟨_,rfl⟩:=hp;simp only[stL]at hst;split at hst
  ·rename_i ty cs hk;cases hb:Nat.ble (off+new.length) cs.length with
   | false=>rw[hb]at hst;cases hst
   | true =>
    rw[hb]at hst;simp only[cond_true,oI,Prod.mk.injEq]at hst;obtain⟨rfl,rfl⟩:=hst;obtain⟨w',g1,g2⟩:=stBox_sound h hk (bL hb) hr h1;exact⟨w',G,g1,g2⟩
  ·cases hst
 | gl g off=>simp[stL]at hst
 | el es o xs i off =>
  simp only[LocR,Rv]at hp;obtain⟨q,len,cap,hs,hrat,hi,he⟩:=hp;cases he;have hcap:0<cap:=by have:=hs.1;have:=hs.2.1;omega
  obtain⟨hes,hspot,hshape,h5⟩:=hs.2.2.2.2.2 q rfl hcap;simp only[stL]at hst;cases hrd:rd S o with
  | no=>rw[hrd]at hst;cases hst
  | box b boff =>
   rw[hrd]at hst h5;simp only at hst;split at hst
   ·rename_i ty cs hk;cases hb:(Nat.ble (off+new.length) es && (Nat.blt i xs.length && Nat.ble (boff+(o.off+i)*es+off+new.length) cs.length)) with
    | false=>rw[hb]at hst;cases hst
    | true =>
     rw[hb]at hst;simp only[cond_true,oI,Prod.mk.injEq]at hst;obtain⟨rfl,rfl⟩:=hst;simp only[bA]at hb;obtain⟨e1,e2,e3,_⟩:=h5;obtain⟨w',g1,g2⟩:=stBox_sound h hk (bL hb.2.2) hr h1;refine⟨w',G,?_,g2⟩;rw[e2,e3,show boff+o.off*es+i*es+off=boff+(o.off+i)*es+off by rw[Nat.add_mul];omega];exact g1
   ·cases hst
  | here =>
   rw[hrd]at hst;simp only at hst;cases ho:o.tok with
   | none=>rw[ho]at hst;cases hst
   | some tl =>
    obtain⟨t,ln⟩:=tl;rw[ho]at hst;simp only at hst;split at hst
    ·rename_i n ty sf hk;cases hb:(Nat.beq o.off 0 && (Nat.beq xs.length n && (Nat.blt i n && Nat.ble (off+new.length) es))) with
     | false=>rw[hb]at hst;cases hst
     | true =>
      rw[hb]at hst;simp only[cond_true,oI,Prod.mk.injEq]at hst;obtain⟨rfl,rfl⟩:=hst;simp only[bA]at hb;obtain⟨b1,b2,b3,b4⟩:=hb;have b1:=bE b1;have b2:=bE b2;have b4:=bL b4;simp only[hrd,ho]at h5;obtain⟨e1,e2,e3,e4,e5⟩:=h5;have hvl:Vld S G t:=by
       unfold rd at hrd;simp only[ho]at hrd;cases hm:lk S.mv t with
       | some m=>rw[hm]at hrd;cases m;simp at hrd
       | none =>
        rw[hm]at hrd;simp only at hrd;cases hd:lk S.dl ln with
        | some u=>rw[hd]at hrd;cases hrd
        | none=>exact⟨hm,by rw[e2];exact hd⟩
      obtain⟨_,ht2⟩:=h.inv.tip t n ty sf hk;obtain⟨es',c,fr,k1,k2,k3,k4,k5⟩:=ht2 hvl;have hq0:q.off=0:=by rw[e4,b1];simp
      have hall:∀{ys:List AV} {o':Nat},Rat S G w q.block es ys o'->∃us:List Value,Rl S G w (ys.flatMap AV.cells) us/\us.length=ys.length*es/\∀j,j<us.length->w.cell? ⟨q.block,o'+j,none⟩=us[j]?:=by
       intro ys
       induction ys with
       | nil=>intro o' _;exact⟨[],Rl.nil,by simp,λj hj=>by simp at hj⟩
       | cons y ys ih =>
        intro o' hra;simp only[Rat]at hra;obtain⟨⟨v,v1,v2,v3⟩,hra⟩:=hra;obtain⟨us,u1,u2,u3⟩:=ih hra;refine⟨v.cells.toList++us,by simp only[List.flatMap_cons];exact v1.cells.append u1,?_,λj hj=>?_⟩
        ·simp only[lA,Array.length_toList,v2,u2,lC];rw[Nat.add_mul];omega
        ·by_cases hj':j<es
         ·rw[v3 j hj',List.getElem?_append_left (by simpa[v2] using hj')];simp
         ·rw[List.getElem?_append_right (by simp[v2];omega)];simp only[Array.length_toList,v2];rw[<-u3 (j-es) (by simp[v2]at hj;omega),show o'+j=o'+es+(j-es) by omega]
      obtain⟨us,u1,u2,u3⟩:=hall (hrat hrd);have hlen:us.length<=c.size:=by
       obtain⟨ty',k,hsh,hle⟩:=hshape;rw[<-e3]at hsh;simp only[World.shape?,k2,oI,Prod.mk.injEq]at hsh;obtain⟨_,rfl⟩:=hsh;have:=hs.1;have:=hs.2.1
       have:xs.length*es<=cap*es:=Nat.mul_le_mul_right _ (by omega);omega
      have hc:c.toList=us++c.toList.drop us.length:=by
       apply List.ext_getElem?
       intro j;by_cases hj:j<us.length
       ·rw[List.getElem?_append_left hj,<-u3 j hj,hq0,Nat.zero_add,<-e3];simp[World.cell?,k2]
       ·rw[List.getElem?_append_right (by omega),List.getElem?_drop]
        congr 1;omega
      have h':=h.step (Tr.thaw (cs:=xs.flatMap AV.cells) h.inv hk hvl e2 k2 hc u1);have hext:Ext S G w { S with nb:=S.nb+1,boxes:=(S.nb,some (ty,xs.flatMap AV.cells))::S.boxes,mv:=(t,.bx S.nb 0)::S.mv,dl:=(ln,())::S.dl,tip:=(t,none)::S.tip } { G with β:=upd G.β S.nb (G.τ t) } w:=(Tr.thaw (cs:=xs.flatMap AV.cells) h.inv hk hvl e2 k2 hc u1).ext;have hle2:i*es+off+new.length<=(xs.flatMap AV.cells).length:=by
       rw[<-u1.length,u2];have:(i+1)*es<=xs.length*es:=Nat.mul_le_mul_right _ hi;rw[Nat.add_mul]at this;omega
      obtain⟨w',g1,g2⟩:=stBox_sound h' (lk_same _ _ _) hle2 (hr.mono hext) h1;refine⟨w',_,?_,g2⟩;simp only[upd_same]at g1;rw[hq0,<-e3,Nat.zero_add];exact g1
    ·cases hst
end

def OpOK (P:Program)(gt:GT)(O:Orig)(o:Oper)(w:World)(a:Act)(env':Env)(S':St):Prop :=
 ∃w' G',(∃v,(execOp a.eval o).run P w=.ok (.value v) w'/\Good P gt O S' G' w' env' (a.put o.dst v)) \/
  ((execOp a.eval o).run P w=.ok .skip w'/\Good P gt O S' G' w' env' (a.put o.dst undef))
section
variable {P:Program}{gt:GT}{O:Orig}{S:St}{G:Gh}{w:World}{env env':Env}{a:Act}{S':St}{o:Oper}
theorem ok_val (h:Good P gt O S G w env a)(hd:∀d,o.dst=some d->O.N.ok d){x:AV}{v:Value}(hx:Rv S G w x v)(hr:(execOp a.eval o).run P w=.ok (.value v) w):OpOK P gt O o w a (putV o.dst x env) S :=
 ⟨w,G,.inl ⟨v,hr,h.putV hd hx⟩⟩
theorem ok_val' (h:Good P gt O S G w env a)(hd:∀d,o.dst=some d->O.N.ok d){x:Option AV}(hs:SR.val o.dst env S x=.done env' S')(hr:∀y,x=some y->∃v,Rv S G w y v/\(execOp a.eval o).run P w=.ok (.value v) w):OpOK P gt O o w a env' S':=by
 cases x with
 | none=>simp[SR.val]at hs
 | some y =>
  simp only[SR.val,SR.done.injEq]at hs;obtain⟨rfl,rfl⟩:=hs;obtain⟨v,h1,h2⟩:=hr y rfl;exact ok_val h hd h1 h2
theorem so_move (h:Good P gt O S G w env a)(hd:∀d,o.dst=some d->O.N.ok d){x:Operand}{t:TypeId}{d:DOpd}(hop:o.op=.move x\/o.op=.assign x)(hp:opdP P t x=some d)(hs:SR.val o.dst env S (opd env d)=.done env' S'):OpOK P gt O o w a env' S':=by
 obtain⟨fb,hf⟩:=h.fr;refine ok_val' h hd hs λy hy=>⟨_,opd_sound hp hy hf,?_⟩
 rcases hop with hop | hop<;>simp[execOp,hop]
theorem so_pick (h:Good P gt O S G w env a)(hd:∀d,o.dst=some d->O.N.ok d){c x y:Operand}{t:TypeId}{dc dx dy:DOpd}(hop:o.op=.pick c x y)(hc:opdP P t c=some dc)(hx:opdP P t x=some dx)(hy:opdP P t y=some dy)
  (hs:stepO gt o.dst env S (.pick dc dx dy)=.done env' S'):OpOK P gt O o w a env' S':=by
 obtain⟨fb,hf⟩:=h.fr;simp only[stepO]at hs;split at hs
 ·rename_i b hb;have e:=opd_sound hc hb hf;simp only[Rv]at e;refine ok_val' h hd hs λz hz=>?_;cases b with
  | true=>exact⟨_,opd_sound hx hz hf,by simp[execOp,hop,e,asBool]⟩
  | false=>exact⟨_,opd_sound hy hz hf,by simp[execOp,hop,e,asBool]⟩
 ·cases hs
theorem zeroC_sound {e:TypeId}{z:List AV}(h:zeroC P e=some z):∃zv,(∀w,(zeroValue e).run P w=.ok zv w)/\∀S G w,Rl S G w z zv.cells.toList:=by
 unfold zeroC at h;cases hi:P.info? e with
 | none=>rw[hi]at h;cases h
 | some i =>
  rw[hi]at h;simp only at h;cases hz:i.zero with
  | none=>rw[hz]at h;cases h
  | some zv =>
   rw[hz]at h;simp only at h;cases hc:constC P e zv with
   | none=>rw[hc]at h;cases h
   | some x =>
    rw[hc]at h;simp only[Option.map_some,oI]at h;subst h;refine⟨zv,λw=>?_,λS G w=>(constC_sound hc).cells⟩;simp[zeroValue,typeInfo,hi,hz]
theorem ok_newL (h:Good P gt O S G w env a){d:Nat}(hdst:o.dst=some d)(hd:O.N.ok d){cs:List AV}{vs:List Value}{ty:TypeId}(hr:Rl S G w cs vs)
  (hrun:(execOp a.eval o).run P w=.ok (.value (.pointer (some ⟨w.heap.size,0,none⟩))) { w with heap:=w.heap.push (.cells ⟨vs⟩ ty (0,0)) }):OpOK P gt O o w a ((d,.box cs)::kill d env) S :=
 ⟨_,G,.inl ⟨_,hrun,by rw[hdst];exact h.putBox hd ty hr⟩⟩
theorem ok_newH (h:Good P gt O S G w env a)(hd:∀d,o.dst=some d->O.N.ok d){cs:List AV}{vs:List Value}{ty:TypeId}(hr:Rl S G w cs vs)
  (hrun:(execOp a.eval o).run P w=.ok (.value (.pointer (some ⟨w.heap.size,0,none⟩))) { w with heap:=w.heap.push (.cells ⟨vs⟩ ty (0,0)) }) :
  OpOK P gt O o w a (putV o.dst (.ptr S.nb 0) env) { S with nb:=S.nb+1,boxes:=(S.nb,some (ty,cs))::S.boxes }:=by
 have h':=h.step (Tr.newBox (c:=⟨vs⟩) h.inv ty hr);refine⟨_,_,.inl ⟨_,hrun,h'.putV hd ?_⟩⟩;simp only[Rv,upd_same];exact⟨Nat.lt_succ_self _,trivial⟩
theorem run_alloc {e:TypeId}{zv:Value}(hz:∀w,(zeroValue e).run P w=.ok zv w)(hop:o.op=.alloc e):(execOp a.eval o).run P w=.ok (.value (.pointer (some ⟨w.heap.size,0,none⟩))) { w with heap:=w.heap.push (.cells ⟨zv.cells.toList⟩ e (0,0)) }:=by
 simp[execOp,hop,Instr.alloc,hz,newVar,newRow,newObj,Sem.run]
theorem run_box {e:TypeId}{x:Operand}(hop:o.op=.box e x):(execOp a.eval o).run P w=.ok (.value (.pointer (some ⟨w.heap.size,0,none⟩))) { w with heap:=w.heap.push (.cells ⟨(a.eval x).cells.toList⟩ e (0,0)) }:=by
 simp[execOp,hop,Instr.box,newVar,newRow,newObj,Sem.run]
theorem so_alloc (h:Good P gt O S G w env a)(hd:∀d,o.dst=some d->O.N.ok d){e:TypeId}{z:List AV}(hop:o.op=.alloc e)(hz:zeroC P e=some z){b:Bool}(hs:stepO gt o.dst env S (if b then .alL z else .alH e z)=.done env' S'):OpOK P gt O o w a env' S':=by
 obtain⟨zv,h1,h2⟩:=zeroC_sound hz;cases b with
 | true =>
  simp only[if_true,stepO]at hs;cases hdst:o.dst with
  | none=>rw[hdst]at hs;cases hs
  | some d =>
   rw[hdst]at hs;simp only[SR.done.injEq]at hs;obtain⟨rfl,rfl⟩:=hs;exact ok_newL h hdst (hd d hdst) (h2 S G w) (run_alloc h1 hop)
 | false =>
  simp only[Bool.false_eq_true,if_false,stepO,SR.done.injEq]at hs;obtain⟨rfl,rfl⟩:=hs;exact ok_newH h hd (h2 S G w) (run_alloc h1 hop)
theorem so_box (h:Good P gt O S G w env a)(hd:∀d,o.dst=some d->O.N.ok d){e:TypeId}{x:Operand}{dx:DOpd}(hop:o.op=.box e x)(hx:opdP P e x=some dx){b:Bool}(hs:stepO gt o.dst env S (if b then .bxL dx else .bxH e dx)=.done env' S'):OpOK P gt O o w a env' S':=by
 obtain⟨fb,hf⟩:=h.fr;cases b with
 | true =>
  simp only[if_true,stepO]at hs;split at hs
  ·rename_i d v hdst hv;simp only[SR.done.injEq]at hs;obtain⟨rfl,rfl⟩:=hs;exact ok_newL h hdst (hd d hdst) (opd_sound hx hv hf).cells (run_box hop)
  ·cases hs
 | false =>
  simp only[Bool.false_eq_true,if_false,stepO]at hs;split at hs
  ·rename_i v hv;simp only[SR.done.injEq]at hs;obtain⟨rfl,rfl⟩:=hs;exact ok_newH h hd (opd_sound hx hv hf).cells (run_box hop)
  ·cases hs
theorem fold_set (off:Nat):∀(l:List Value) (k:Nat) (cs:Array Value),off+k+l.length<=cs.size->((l.zipIdx k).foldl (λcs (p:Value×Nat)=>cs.setIfInBounds (off+p.2) p.1) cs).toList=spl cs.toList (off+k) l
 | [],k,cs,_=>by simp[spl]
 | v::l,k,cs,h=>by
  simp only[List.zipIdx_cons,List.foldl_cons];rw[fold_set off l (k+1) _ (by simp at h ⊢;omega)];rw[Array.toList_setIfInBounds,show off+(k+1)=off+k+1 by omega];exact spl_step (by simp at h ⊢;omega)
theorem fold_zip (v cs:Array Value)(off:Nat)(h:off+v.size<=cs.size):(v.zipIdx.foldl (λcs (p:Value×Nat)=>cs.setIfInBounds (off+p.2) p.1) cs).toList=spl cs.toList off v.toList:=by
 rw[<-Array.foldl_toList,Array.toList_zipIdx];have:=fold_set off v.toList 0 cs (by simpa using h);simpa using this
def PartsR (P:Program)(place:Nat->Option (Nat×Nat)):List (Nat×Operand)->List (Nat×Nat×DOpd)->Prop
 | [],[]=>True
 | p::l,q::ps=>(place p.1=some (q.1,q.2.1)/\∃t,opdP P t p.2=some q.2.2)/\PartsR P place l ps
 | _,_=>False
theorem fill_sound {fb:Nat->Nat}(hf:FR O S G w env a fb){place:Nat->Option (Nat×Nat)}:∀{l:List (Nat×Operand)} {ps:List (Nat×Nat×DOpd)} {cs cs':List AV} {vs:Array Value},
  PartsR P place l ps ->
  Rl S G w cs vs.toList->fillC cs env ps=some cs' ->
  ∃vs',Instr.fill place vs (l.map λp=>(p.1,a.eval p.2))=some vs'/\Rl S G w cs' vs'.toList
 | [],[],cs,cs',vs,_,hr,h=>by
  simp only[fillC,oI]at h;subst h;exact⟨vs,rfl,hr⟩
 | [],_::_,_,_,_,hl,_,_=>hl.elim
 | _::_,[],_,_,_,hl,_,_=>hl.elim
 | p::l,q::ps,cs,cs',vs,hl,hr,h=>by
   obtain⟨⟨hpl,t,ht⟩,h2⟩:=hl;obtain⟨off,sz,d⟩:=q;simp only[fillC]at h;cases hv:opd env d with
   | none=>rw[hv]at h;cases h
   | some v =>
    rw[hv]at h;simp only at h;cases hb:(Nat.beq v.cells.length sz && Nat.ble (off+sz) cs.length) with
    | false=>rw[hb]at h;cases h
    | true =>
     rw[hb]at h;simp only[cond_true]at h;simp only[bA]at hb;have b1:=bE hb.1;have b2:=bL hb.2;have hx:=opd_sound ht hv hf;have hsz:(a.eval p.2).cells.size=sz:=by rw[hx.cells_size,b1]
     have hlen:vs.size=cs.length:=by simpa using hr.length
     have hr':Rl S G w (splice cs off v.cells) ((a.eval p.2).cells.zipIdx.foldl (λcs (p:Value×Nat)=>cs.setIfInBounds (off+p.2) p.1) vs).toList:=by
      rw[fold_zip _ _ _ (by omega)];exact splice_Rl hr hx.cells off
     obtain⟨vs',g1,g2⟩:=fill_sound hf h2 hr' h;refine⟨vs',?_,g2⟩;simp only[List.map_cons,Instr.fill];simp only at hpl;rw[hpl];simp only[hsz];rw[if_neg (by simp;omega)];exact g1
theorem partsP_R {fs:Array Field}{place:Nat->Option (Nat×Nat)}(hpl:∀(i:Nat) (f:Field) s,fs[i]? = some f->sizeP P f.type=some s->place i=some (f.offset,s)):∀{l:List (Nat×Operand)} {ps:List (Nat×Nat×DOpd)},partsP P fs l=some ps->PartsR P place l ps
 | [],ps,h=>by simp only[partsP,oI]at h;subst h;trivial
 | (i,x)::l,ps,h=>by
  simp only[partsP]at h;split at h
  ·rename_i f hf;split at h
   ·rename_i s d r h1 h2 h3;simp only[oI]at h;subst h;exact⟨⟨hpl i f s hf h1,f.type,h2⟩,partsP_R hpl h3⟩
   ·cases h
  ·cases h
theorem partsA_R {e:TypeId}{s:Nat}:∀{l:List (Nat×Operand)} {ps:List (Nat×Nat×DOpd)},partsA P e s l=some ps->PartsR P (λi=>some (i*s,s)) l ps
 | [],ps,h=>by simp only[partsA,oI]at h;subst h;trivial
 | (i,x)::l,ps,h=>by
  simp only[partsA]at h;split at h
  ·rename_i d r h2 h3;simp only[oI]at h;subst h;exact⟨⟨rfl,e,h2⟩,partsA_R h3⟩
  ·cases h
theorem places_run {fs:Array Field}(h:fs.toList.all (λ(f:Field)=>(sizeP P f.type).isSome)=true)(w:World):∃ps:Array (Nat×Nat),(fs.mapM (m:=Sem) λf=>do pure (f.offset,<-sizeOf f.type)).run P w=.ok ps w /\
  ∀(i:Nat) (f:Field) s,fs[i]? = some f->sizeP P f.type=some s->ps[i]? = some (f.offset,s):=by
 have key:∀l:List Field,l.all (λ(f:Field)=>(sizeP P f.type).isSome)=true->∃ps:List (Nat×Nat),(l.mapM (m:=Sem) λf=>do pure (f.offset,<-sizeOf f.type)).run P w=.ok ps w /\
   ∀(i:Nat) (f:Field) s,l[i]? = some f->sizeP P f.type=some s->ps[i]? = some (f.offset,s):=by
  intro l
  induction l with
  | nil=>intro _;exact⟨[],by simp,λi f s hi=>by simp at hi⟩
  | cons f l ih =>
   intro hl;simp only[List.all_cons,bA]at hl;obtain⟨ps,h1,h2⟩:=ih hl.2;cases hs:sizeP P f.type with
   | none=>rw[hs]at hl;cases hl.1
   | some s =>
    refine⟨(f.offset,s)::ps,by simp only[List.mapM_cons,Sem.run_bind,run_sizeP hs,Result.andThen_ok,h1,Sem.run_pure],λi f' s' hi hs'=>?_⟩;cases i with
    | zero=>simp at hi;subst hi;rw[hs]at hs';cases hs';rfl
    | succ i=>simp at hi;simpa using h2 i f' s' hi hs'
 obtain⟨ps,h1,h2⟩:=key fs.toList h;refine⟨ps.toArray,?_,λi f s hi hs=>by simpa using h2 i f s (by simpa using hi) hs⟩;rw[Array.mapM_eq_mapM_toList,Sem.run_map,h1];rfl
theorem so_build (h:Good P gt O S G w env a)(hd:∀d,o.dst=some d->O.N.ok d){t:TypeId}{z:List AV}{l:Array (Nat×Operand)}{ps:List (Nat×Nat×DOpd)}(hop:o.op=.build t l)(hz:zeroC P t=some z)
  (hp:(∃fs,P.underlying t=some (.struct fs)/\fs.toList.all (λ(f:Field)=>(sizeP P f.type).isSome)=true/\partsP P fs l.toList=some ps) \/
   (∃n e s,P.underlying t=some (.array n e)/\sizeP P e=some s/\partsA P e s l.toList=some ps))
  (hs:stepO gt o.dst env S (.bld z ps)=.done env' S'):OpOK P gt O o w a env' S':=by
 obtain⟨fb,hf⟩:=h.fr;obtain⟨zv,h1,h2⟩:=zeroC_sound hz;simp only[stepO]at hs;refine ok_val' h hd hs λy hy=>?_;cases hc:fillC z env ps with
 | none=>rw[hc]at hy;cases hy
 | some cs =>
  rw[hc]at hy;simp only[Option.map_some,oI]at hy;subst hy;have hmap:(l.map λ(i,x)=>(i,a.eval x)).toList=l.toList.map λp=>(p.1,a.eval p.2):=by simp
  rcases hp with⟨fs,hu,hall,hp⟩ | ⟨n,e,s,hu,hse,hp⟩
  ·obtain⟨pl,k1,k2⟩:=places_run hall w;obtain⟨vs,g1,g2⟩:=fill_sound hf (partsP_R (place:=λi=>pl[i]?) k2 hp) (h2 S G w) hc;refine⟨.agg vs,?_,?_⟩
   ·simp only[Rv];exact⟨vs.toList,by simp,g2⟩
   ·simp only[execOp,hop,Instr.build,Sem.run_bind,h1,Result.andThen_ok,run_underlying hu,k1,hmap,g1];rfl
  ·obtain⟨vs,g1,g2⟩:=fill_sound hf (partsA_R hp) (h2 S G w) hc;refine⟨.agg vs,?_,?_⟩
   ·simp only[Rv];exact⟨vs.toList,by simp,g2⟩
   ·simp only[execOp,hop,Instr.build,Sem.run_bind,h1,Result.andThen_ok,run_underlying hu,run_sizeP hse,hmap,g1];rfl
end

section
variable {P:Program}{gt:GT}{O:Orig}{S:St}{G:Gh}{w:World}{env env':Env}{a:Act}{S':St}{o:Oper}
theorem blt_lt {a b:Nat}(h:Nat.blt a b=true):a<b:=bL h
theorem LocR.spot {fb:Nat->Nat}{p:Addr}{l:Loc}(h:LocR S G w fb p l):p.spot=none:=by
 cases l with
 | lc t off=>simp only[LocR]at h;rw[h]
 | hp id off=>simp only[LocR]at h;rw[h.2]
 | gl g off=>simp only[LocR]at h;rw[h]
 | el es o xs i off=>simp only[LocR,Rv]at h;obtain⟨q,len,cap,_,_,_,he⟩:=h;cases he;rfl
theorem addr_eta {p:Addr}(h:p.spot=none):p=⟨p.block,p.off,none⟩:=by cases p;simp at h;subst h;rfl
theorem add_eta {p:Addr}(h:p.spot=none)(n:Nat):p.add n=⟨p.block,p.off+n,none⟩:=by rw[addr_eta h,add_none]
theorem addL_sound {fb:Nat->Nat}{p:Addr}{l:Loc}(n:Nat)(h:LocR S G w fb p l):match addL n l with
  |.val x=>Rv S G w x (.pointer (some ⟨p.block,p.off+n,none⟩))
  |.adr t off=>(.pointer (some ⟨p.block,p.off+n,none⟩):Value)=.pointer (some ⟨fb t,off,none⟩)
  |.box _=>False
  |.unk=>True:=by
 cases l with
 | lc t off=>simp only[LocR]at h;subst h;simp only[addL]
 | hp id off=>simp only[LocR]at h;obtain⟨h1,rfl⟩:=h;simp only[addL,Rv];exact⟨h1,trivial⟩
 | gl g off=>simp only[LocR]at h;subst h;simp only[addL,Rv]
 | el es o xs i off =>
  simp only[LocR,Rv]at h;obtain⟨q,len,cap,h1,h2,h3,he⟩:=h;cases he;simp only[addL,Rv];exact⟨q,len,cap,h1,h2,h3,by simp;omega⟩
theorem ok_ent (h:Good P gt O S G w env a)(hd:∀d,o.dst=some d->O.N.ok d){e:Ent}{v:Value}(hv:∀fb,FR O S G w env a fb->match e with
  |.val x=>Rv S G w x v
  |.adr t off=>v=.pointer (some ⟨fb t,off,none⟩)
  |.box _=>False
  |.unk=>True) (hr:(execOp a.eval o).run P w=.ok (.value v) w):OpOK P gt O o w a (putE o.dst e env) S:=by
 refine⟨w,G,.inl ⟨v,hr,?_⟩⟩;cases hdst:o.dst with
 | none=>exact h
 | some d=>exact h.putE (hd d hdst) hv
theorem so_load (h:Good P gt O S G w env a)(hd:∀d,o.dst=some d->O.N.ok d){t:TypeId}{x:Operand}{g:Bool}{s:Nat}{dx:DOpd}(hop:o.op=.load t x)(hg:isAggP P t=some g)(hsz:sizeP P t=some s)(hx:opdP P 0 x=some dx)(hgs:g=true\/s=1)
  (hs:stepO gt o.dst env S (.ld g s dx)=.done env' S'):OpOK P gt O o w a env' S':=by
 obtain⟨fb,hf⟩:=h.fr;simp only[stepO]at hs;split at hs
 ·rename_i l hl;refine ok_val' h hd hs λy hy=>?_;obtain⟨p,hp,hloc⟩:=loc_sound hx hl hf;unfold ldL at hy;split at hy
  ·rename_i cs hc;obtain⟨vs,h1,h2,h3,h4⟩:=ldC_sound h.inv hf hc hloc;obtain⟨v,hr,hv⟩:=run_loadVar (w:=w) vs hg (by rw[hsz,h1]) (by rw[h1];exact hgs) h3;refine⟨v,?_,?_⟩
   ·rcases h4.mkv hy with⟨rfl,hk⟩ | ⟨rfl,u,rfl,hk⟩
    ·rcases hv with⟨_,rfl⟩ | ⟨e,_⟩
     ·exact hk
     ·cases e
    ·rcases hv with⟨e,_⟩ | ⟨_,e⟩
     ·cases e
     ·cases e;exact hk
   ·rw[<-addr_eta h2]at hr;simp[execOp,hop,Instr.loadAt,Instr.sureAddr,hp,hr]
  ·cases hy
 ·cases hs
theorem so_store (h:Good P gt O S G w env a)(hd:∀d,o.dst=some d->O.N.ok d){t tx:TypeId}{x y:Operand}{s:Nat}{dx dy:DOpd}(hop:o.op=.store t x y)(hsz:sizeP P t=some s)(hx:opdP P 0 x=some dx)(hy:opdP P tx y=some dy)
  (hs:stepO gt o.dst env S (.st s dx dy)=.done env' S'):OpOK P gt O o w a env' S':=by
 obtain⟨fb,hf⟩:=h.fr;simp only[stepO]at hs;split at hs
 ·rename_i l v hl hv;cases hb:(Nat.beq v.cells.length s && v.cells.all ok1) with
  | false=>rw[hb]at hs;cases hs
  | true =>
   rw[hb]at hs;simp only[cond_true]at hs;simp only[bA]at hb;have b1:=bE hb.1;split at hs
   ·rename_i env1 S1 hst;simp only[SR.done.injEq]at hs;obtain⟨rfl,rfl⟩:=hs;obtain⟨p,hp,hloc⟩:=loc_sound hx hl hf;have hxv:=opd_sound hy hv hf;obtain⟨w',G',hr,hg⟩:=stL_sound h hf hloc hxv.cells hb.2 hst;refine⟨w',G',.inr ⟨?_,hg.putV hd (by simp[Rv])⟩⟩;simp only[execOp,hop,Instr.storeAt,Instr.sureAddr,hp,storeVar,Sem.run_bind,Sem.run_pure,Result.andThen_ok,run_sizeP hsz];rw[if_neg (by rw[hxv.cells_size,b1];simp)];simp[hr]
   ·cases hs
 ·cases hs
theorem so_nilCheck (h:Good P gt O S G w env a)(hd:∀d,o.dst=some d->O.N.ok d){x:Operand}{dx:DOpd}(hop:o.op=.nilCheck x)(hx:opdP P 0 x=some dx)
  (hs:stepO gt o.dst env S (.nilc dx)=.done env' S'):OpOK P gt O o w a env' S':=by
 simp only[stepO]at hs;split at hs
 ·rename_i l hl;simp only[SR.done.injEq]at hs;obtain⟨rfl,rfl⟩:=hs;obtain⟨fb,hf⟩:=h.fr;obtain⟨p,hp,hloc⟩:=loc_sound hx hl hf;refine ok_ent h hd (v:=.pointer (some p)) (λfb' hf'=>?_) (by simp[execOp,hop,hp]);obtain⟨p',hp',hloc'⟩:=loc_sound hx hl hf';rw[hp]at hp';cases hp';have:=addL_sound 0 hloc';rw[Nat.add_zero,<-addr_eta hloc'.spot]at this;exact this
 ·obtain⟨fb,hf⟩:=h.fr;split at hs
  ·rename_i f fs cs hv;simp only[SR.done.injEq]at hs;obtain⟨rfl,rfl⟩:=hs;have hr:=opd_sound hx hv hf;have hr':=hr;simp only[Rv]at hr';obtain⟨u1,u2,hu,_,_⟩:=hr';exact ok_val h hd hr (by simp[execOp,hop,hu])
  ·rename_i t v hv;simp only[SR.done.injEq]at hs;obtain⟨rfl,rfl⟩:=hs;have hr:=opd_sound hx hv hf;have hr':=hr;simp only[Rv]at hr';obtain⟨u1,hu,_⟩:=hr';exact ok_val h hd hr (by simp[execOp,hop,hu])
  ·cases hs
theorem so_fieldAddr (h:Good P gt O S G w env a)(hd:∀d,o.dst=some d->O.N.ok d){t:TypeId}{x:Operand}{k:Nat}{fs:Array Field}{f:Field}{n:Nat}{dx:DOpd}(hop:o.op=.fieldAddr t x k)(hu:P.underlying t=some (.struct fs))(hf:fs[k]? = some f)(hsz:sizeP P f.type=some (n+1))(hx:opdP P 0 x=some dx)
  (hs:stepO gt o.dst env S (.fa f.offset dx)=.done env' S'):OpOK P gt O o w a env' S':=by
 simp only[stepO]at hs;split at hs
 ·rename_i l hl;simp only[SR.done.injEq]at hs;obtain⟨rfl,rfl⟩:=hs;obtain⟨fb,hfr⟩:=h.fr;obtain⟨p,hp,hloc⟩:=loc_sound hx hl hfr;refine ok_ent h hd (v:=.pointer (some (p.add f.offset))) (λfb' hf'=>?_) ?_
  ·obtain⟨p',hp',hloc'⟩:=loc_sound hx hl hf';rw[hp]at hp';cases hp';rw[add_eta hloc'.spot];exact addL_sound f.offset hloc'
  ·simp[execOp,hop,Instr.fieldAt,run_underlying hu,hf,Instr.sureAddr,hp,fieldPlace,run_sizeP hsz]
 ·cases hs
theorem part_run {t:TypeId}{g:Bool}{s off:Nat}(hg:isAggP P t=some g)(hsz:sizeP P t=some s){vs:List Value}{cs:List AV}{cells:List AV}(hr:Rl S G w cs vs)(hc:cut cs off s=some cells){y:AV}(hy:mkv g cells=some y) :
  ∃v,(part t ⟨vs⟩ off).run P w=.ok v w/\Rv S G w y v:=by
 obtain⟨h1,h2,h3⟩:=hr.cut hc;unfold part;simp only[Sem.run_bind,run_isAgg hg,Result.andThen_ok];rcases h3.mkv hy with⟨rfl,hk⟩ | ⟨rfl,u,hu,hk⟩
 ·refine⟨.agg ⟨(vs.drop off).take s⟩,?_,hk⟩;have:(⟨vs⟩:Array Value).extract off (off+s)=⟨(vs.drop off).take s⟩:=by
   simp[List.extract_toArray,List.extract_eq_take_drop]
  simp only[if_true,Sem.run_bind,run_sizeP hsz,Result.andThen_ok,this,Sem.run_pure]
 ·refine⟨u,?_,hk⟩;have hs1:s≠0:=by
   intro e;subst e;simp at hu
  have:vs[off]? = some u:=by
   have e:=congrArg (·[0]?) hu;simp only[List.getElem?_cons_zero]at e;rw[List.getElem?_take_of_lt (by omega),List.getElem?_drop]at e;simpa using e
  simp[this]
theorem so_field (h:Good P gt O S G w env a)(hd:∀d,o.dst=some d->O.N.ok d){t:TypeId}{x:Operand}{k:Nat}{fs:Array Field}{f:Field}{g:Bool}{s:Nat}{dx:DOpd}{tx:TypeId}(hop:o.op=.field t x k)(hu:P.underlying t=some (.struct fs))(hf:fs[k]? = some f)(hg:isAggP P f.type=some g)(hsz:sizeP P f.type=some s)(hx:opdP P tx x=some dx)
  (hs:stepO gt o.dst env S (.fd g f.offset s dx)=.done env' S'):OpOK P gt O o w a env' S':=by
 obtain⟨fb,hfr⟩:=h.fr;simp only[stepO]at hs;split at hs
 ·rename_i cs hv;refine ok_val' h hd hs λy hy=>?_;have hr:=opd_sound hx hv hfr;simp only[Rv]at hr;obtain⟨vs,hv1,hv2⟩:=hr;cases hc:cut cs f.offset s with
  | none=>rw[hc]at hy;cases hy
  | some cells =>
   rw[hc]at hy;obtain⟨v,g1,g2⟩:=part_run hg hsz hv2 hc hy;exact⟨v,g2,by simp[execOp,hop,Instr.field,run_underlying hu,hf,hv1,asAgg,g1]⟩
 ·cases hs
theorem nat?_sound {x:AV}{i:Nat}{v:Value}(h:nat? x=some i)(hv:Rv S G w x v):∃k,v=.int k (i:Int):=by
 unfold nat? at h;split at h
 ·cases h;simp only[Rv]at hv;exact⟨_,hv⟩
 ·cases h
theorem bind_nat {d:DOpd}{i:Nat}(h:(opd env d).bind nat? = some i):∃x,opd env d=some x/\nat? x=some i:=by
 cases he:opd env d with
 | none=>rw[he]at h;cases h
 | some x=>rw[he]at h;exact⟨x,rfl,h⟩
theorem so_indexAddrS (h:Good P gt O S G w env a)(hd:∀d,o.dst=some d->O.N.ok d){t e:TypeId}{x i:Operand}{s:Nat}{dx di:DOpd}{tx ti:TypeId}(hop:o.op=.indexAddr t x i)(hu:P.underlying t=some (.slice e))(hsz:sizeP P e=some s)(hx:opdP P tx x=some dx)(hi:opdP P ti i=some di)
  (hs:stepO gt o.dst env S (.ia s dx di)=.done env' S'):OpOK P gt O o w a env' S':=by
 obtain⟨fb,hfr⟩:=h.fr;simp only[stepO]at hs;split at hs
 ·rename_i es so xs k hv hk;cases hb:(Nat.beq s es && Nat.blt k xs.length) with
  | false=>rw[hb]at hs;cases hs
  | true =>
   rw[hb]at hs;simp only[cond_true,SR.done.injEq]at hs;obtain⟨rfl,rfl⟩:=hs;simp only[bA]at hb;have b1:=bE hb.1;subst b1;have b2:k<xs.length:=blt_lt hb.2;obtain⟨ix,hix,hnx⟩:=bind_nat hk;obtain⟨kk,hiv⟩:=nat?_sound hnx (opd_sound hi hix hfr);have hr:=opd_sound hx hv hfr;simp only[Rv]at hr;obtain⟨ad,len,cap,hv1,hsl,hrat⟩:=hr;have hcap:0<cap:=by have:=hsl.1;have:=hsl.2.1;omega
   cases ad with
   | none=>have:=hsl.2.2.2.2.1 rfl;omega
   | some p =>
    have hsp:=(hsl.2.2.2.2.2 p rfl hcap).2.1;refine ok_val h hd (v:=.pointer (some (p.add (k*s)))) ?_ ?_
    ·simp only[Rv];refine⟨p,len,cap,hsl,λhrd=>hrat hrd p rfl,b2,?_⟩;rw[add_eta hsp];simp
    ·simp[execOp,hop,Instr.indexAt,hiv,asIntOf,run_underlying hu,hv1,run_sizeP hsz];have:=hsl.1;intro hh;omega
 ·cases hs
theorem so_indexAddrA (h:Good P gt O S G w env a)(hd:∀d,o.dst=some d->O.N.ok d){t e:TypeId}{x i:Operand}{s n:Nat}{dx di:DOpd}{ti:TypeId}(hop:o.op=.indexAddr t x i)(hu:P.underlying t=some (.array n e))(hsz:sizeP P e=some s)(hx:opdP P t x=some dx)(hi:opdP P ti i=some di)
  (hs:stepO gt o.dst env S (.iaA s n dx di)=.done env' S'):OpOK P gt O o w a env' S':=by
 simp only[stepO]at hs;split at hs
 ·rename_i l k hl hk;cases hb:Nat.blt k n with
  | false=>rw[hb]at hs;cases hs
  | true =>
   rw[hb]at hs;simp only[cond_true,SR.done.injEq]at hs;obtain⟨rfl,rfl⟩:=hs;have b2:k<n:=blt_lt hb;obtain⟨fb,hfr⟩:=h.fr;obtain⟨ix,hix,hnx⟩:=bind_nat hk;obtain⟨kk,hiv⟩:=nat?_sound hnx (opd_sound hi hix hfr);obtain⟨p,hp,hloc⟩:=loc_sound hx hl hfr;refine ok_ent h hd (v:=.pointer (some (p.add (k*s)))) (λfb' hf'=>?_) ?_
   ·obtain⟨p',hp',hloc'⟩:=loc_sound hx hl hf';rw[hp]at hp';cases hp';rw[add_eta hloc'.spot];exact addL_sound (k*s) hloc'
   ·simp[execOp,hop,Instr.indexAt,hiv,asIntOf,run_underlying hu,hp,Instr.sureAddr,run_sizeP hsz];intro hh;omega
 ·cases hs
theorem so_indexS (h:Good P gt O S G w env a)(hd:∀d,o.dst=some d->O.N.ok d){t:TypeId}{x i:Operand}{dx di:DOpd}{tx ti:TypeId}(hop:o.op=.index t x i)(hu:P.underlying t=some .string)(hx:opdP P tx x=some dx)(hi:opdP P ti i=some di)
  (hs:stepO gt o.dst env S (.ixS dx di)=.done env' S'):OpOK P gt O o w a env' S':=by
 obtain⟨fb,hfr⟩:=h.fr;simp only[stepO]at hs;split at hs
 ·rename_i s k hv hk;split at hs
  ·rename_i b hb;simp only[SR.done.injEq]at hs;obtain⟨rfl,rfl⟩:=hs;obtain⟨ix,hix,hnx⟩:=bind_nat hk;obtain⟨kk,hiv⟩:=nat?_sound hnx (opd_sound hi hix hfr);have hr:=opd_sound hx hv hfr;simp only[Rv]at hr;have hg:(⟨⟨s⟩⟩:ByteArray)[k]? = some b:=by
    have hk:k<s.length:=by
     rcases Nat.lt_or_ge k s.length with h' | h'
     ·exact h'
     ·rw[List.getElem?_eq_none h']at hb;cases hb
    have hb':s[k]=b:=by rw[gE hk]at hb;exact Option.some.inj hb
    rw[getElem?_pos (⟨⟨s⟩⟩:ByteArray) k (by simpa[ByteArray.size] using hk)]
    congr 1
   refine ok_val h hd (v:=.int .u8 b.toNat) (by simp[Rv]) ?_;simp[execOp,hop,Instr.index,hiv,asIntOf,run_underlying hu,hr,hg]
  ·cases hs
 ·cases hs
theorem so_indexA (h:Good P gt O S G w env a)(hd:∀d,o.dst=some d->O.N.ok d){t e:TypeId}{x i:Operand}{g:Bool}{s n:Nat}{dx di:DOpd}{tx ti:TypeId}(hop:o.op=.index t x i)(hu:P.underlying t=some (.array n e))(hg:isAggP P e=some g)(hsz:sizeP P e=some s)(hx:opdP P tx x=some dx)(hi:opdP P ti i=some di)
  (hs:stepO gt o.dst env S (.ixA g s n dx di)=.done env' S'):OpOK P gt O o w a env' S':=by
 obtain⟨fb,hfr⟩:=h.fr;simp only[stepO]at hs;split at hs
 ·rename_i cs k hv hk;cases hb:Nat.blt k n with
  | false=>rw[hb]at hs;cases hs
  | true =>
   rw[hb]at hs;simp only[cond_true]at hs;have b2:k<n:=blt_lt hb;obtain⟨ix,hix,hnx⟩:=bind_nat hk;obtain⟨kk,hiv⟩:=nat?_sound hnx (opd_sound hi hix hfr);have hr:=opd_sound hx hv hfr;simp only[Rv]at hr;obtain⟨vs,hv1,hv2⟩:=hr;refine ok_val' h hd hs λy hy=>?_;cases hc:cut cs (k*s) s with
   | none=>rw[hc]at hy;cases hy
   | some cells =>
    rw[hc]at hy;obtain⟨v,g1,g2⟩:=part_run hg hsz hv2 hc hy;refine⟨v,g2,?_⟩;simp only[execOp,hop,Instr.index,hiv,asIntOf,Sem.run_bind,Sem.run_pure,Result.andThen_ok,run_underlying hu,hv1];rw[if_pos ⟨by omega,by omega⟩];simp[run_sizeP hsz,g1]
 ·cases hs
end

section
variable {P:Program}{gt:GT}{O:Orig}{S:St}{G:Gh}{w:World}{env env':Env}{a:Act}{S':St}{o:Oper}
theorem beqB_eq:∀(x y:List UInt8),beqB x y=(x == y)
 | [],[]=>rfl
 | [],_::_=>rfl
 | _::_,[]=>rfl
 | a::x,b::y=>by
  simp only[beqB,List.cons_beq_cons];by_cases h:a=b
  ·subst h;simp[beqB_eq x y]
  ·have h':a.toNat≠b.toNat:=λe=>h (UInt8.toNat_inj.1 e);have:Nat.beq a.toNat b.toNat=false:=by
    cases hb:Nat.beq a.toNat b.toNat
    ·rfl
    ·exact absurd (bE hb) h'
   simp[this,h]
theorem ltB_eq:∀(x y:List UInt8),ltB x y=Op.bytesLess x y
 | [],[]=>rfl
 | [],_::_=>rfl
 | _::_,[]=>rfl
 | a::x,b::y=>by
  simp only[ltB,Op.bytesLess];by_cases h:a<b
  ·have:Nat.blt a.toNat b.toNat=true:=Nat.ble_eq_true_of_le (UInt8.lt_iff_toNat_lt.1 h);simp[this,h]
  ·have h1:Nat.blt a.toNat b.toNat=false:=by
    cases hb:Nat.blt a.toNat b.toNat
    ·rfl
    ·exact absurd (UInt8.lt_iff_toNat_lt.2 (blt_lt hb)) h
   by_cases h2:a=b
   ·subst h2;simp[h1,ltB_eq x y]
   ·have h':a.toNat≠b.toNat:=λe=>h2 (UInt8.toNat_inj.1 e);have:Nat.beq a.toNat b.toNat=false:=by
     cases hb:Nat.beq a.toNat b.toNat
     ·rfl
     ·exact absurd (bE hb) h'
    simp[h1,this,h,h2]
theorem mapM_some_cons {α β:Type}{f:α->Option β}{x:α}{l:List α}{r:List β}(h:(x::l).mapM f=some r):∃y r',f x=some y/\l.mapM f=some r'/\r=y::r':=by
 rw[List.mapM_cons]at h;cases hx:f x with
 | none=>rw[hx]at h;cases h
 | some y =>
  rw[hx]at h;cases hl:l.mapM f with
  | none=>rw[hl]at h;cases h
  | some r'=>rw[hl]at h;cases h;exact⟨y,r',rfl,rfl,rfl⟩
theorem mapM_some_nil {α β:Type}{f:α->Option β}{r:List β}(h:([]:List α).mapM f=some r):r=[]:=by
 simp at h;exact h
set_option maxHeartbeats 1000000 in
theorem eqv_sound (w:World):∀(d:Nat) {t:TypeId} {ek:EqK} {x y:AV} {u v:Value} {b:Bool},eqkP P d t=some ek->eqv ek x y=some b->Rv S G w x u->Rv S G w y v->∀n,d<=n->(Op.equalIn n t u v).run P w=.ok b w
 | 0,t,ek,x,y,u,v,b,he,_,_,_,n,_=>by simp[eqkP]at he
 | d+1,t,ek,x,y,u,v,b,he,hb,hx,hy,n,hn=>by
  obtain⟨n,rfl⟩:∃m,n=m+1:=⟨n-1,by omega⟩
  simp only[eqkP]at he;split at he
  ·rename_i hu;cases he;simp only[eqv,eqBool]at hb;split at hb<;>cases hb
   simp only[Rv]at hx hy;subst hx;subst hy;simp[Op.equalIn,run_underlying hu]
  ·rename_i k hu;cases he;simp only[eqv,eqInt]at hb;split at hb<;>first | (cases hb;done) | skip
   rename_i k1 a1 k2 a2;split at hb
   ·rename_i hkk;cases hb;simp only[Rv]at hx hy;subst hx;subst hy;simp[Op.equalIn,run_underlying hu,hkk]
   ·cases hb
  ·rename_i hu;cases he;simp only[eqv,eqStr]at hb;split at hb<;>first | (cases hb;done) | skip
   rename_i s1 s2;cases hb;simp only[Rv]at hx hy;subst hx;subst hy;have:((⟨⟨s1⟩⟩:ByteArray) == ⟨⟨s2⟩⟩)=beqB s1 s2:=by
    rw[beq_toListBytes,ByteArray.toList_eq,ByteArray.toList_eq,beqB_eq]
   simp[Op.equalIn,run_underlying hu,this]
  ·rename_i e hu;split at he
   ·rename_i k hsz;cases he;simp only[eqv,eqPtr]at hb;split at hb<;>first | (cases hb;done) | skip
    ·cases hb;simp only[Rv]at hx hy;subst hx;subst hy;simp[Op.equalIn,run_underlying hu]
    ·cases hb;simp only[Rv]at hx hy;subst hx;obtain⟨_,rfl⟩:=hy;simp[Op.equalIn,run_underlying hu]
    ·cases hb;simp only[Rv]at hx hy;obtain⟨_,rfl⟩:=hx;subst hy;simp[Op.equalIn,run_underlying hu]
    ·cases hb;simp only[Rv]at hx hy;subst hx;obtain⟨_,_,_,_,_,_,rfl⟩:=hy;simp[Op.equalIn,run_underlying hu]
    ·cases hb;simp only[Rv]at hx hy;obtain⟨_,_,_,_,_,_,rfl⟩:=hx;subst hy;simp[Op.equalIn,run_underlying hu]
    ·rename_i i1 o1 i2 o2;cases hi:Nat.beq i1 i2 with
     | false=>rw[hi]at hb;cases hb
     | true =>
      rw[hi]at hb;simp only[cond_true,oI]at hb;have hi:=bE hi;subst hi;simp only[Rv]at hx hy;obtain⟨_,rfl⟩:=hx;obtain⟨_,rfl⟩:=hy;have:((⟨G.β i1,o1,none⟩:Addr) == ⟨G.β i1,o2,none⟩)=b:=by
       rw[<-hb];by_cases e:o1=o2
       ·subst e;simp
       ·have h1:Nat.beq o1 o2=false:=by
         cases hq:Nat.beq o1 o2
         ·rfl
         ·exact absurd (bE hq) e
        rw[h1];simp[e]
      simp[Op.equalIn,run_underlying hu,run_sizeP hsz,sameAddr,this]
   ·cases he
  ·rename_i e hu;cases he;simp only[eqv,eqSl]at hb;split at hb<;>first | (cases hb;done) | skip
   rename_i e1 o1 x1 e2 o2 x2;simp only[Rv]at hx hy;obtain⟨a1,l1,c1,rfl,h1,_⟩:=hx;obtain⟨a2,l2,c2,rfl,h2,_⟩:=hy;have nn:∀{o:SI} {xs:List AV} {a:Option Addr} {es l c:Nat},SlOK S G w es o xs.length a l c->nnil o xs=true->o.isNil=false->∃p,a=some p:=λ{o xs a es l c} hs hn hf=>by
    cases a with
    | some p=>exact⟨p,rfl⟩
    | none =>
     exfalso;cases xs with
     | nil =>
      have:=hs.2.2.1.2 hn rfl;rw[hf]at this;cases this
     | cons y r =>
      have h1:=hs.1;have h2:=hs.2.1;have h3:=hs.2.2.2.2.1 rfl;simp only[lC]at h1;omega
   cases hq:o1.isNil with
   | true =>
    have e1:a1=none:=h1.2.2.1.1 hq;subst e1;rw[hq]at hb;simp only[cond_true]at hb;cases hq2:o2.isNil with
    | true =>
     rw[hq2]at hb;simp only[cond_true,oI]at hb;have e2:a2=none:=h2.2.2.1.1 hq2;subst e2;simp[Op.equalIn,run_underlying hu,<-hb]
    | false =>
     rw[hq2]at hb;simp only[cond_false]at hb;cases hn:nnil o2 x2 with
     | false=>rw[hn]at hb;cases hb
     | true =>
      rw[hn]at hb;simp only[cond_true,oI]at hb;obtain⟨p,rfl⟩:=nn h2 hn hq2;simp[Op.equalIn,run_underlying hu,<-hb]
   | false =>
    rw[hq]at hb;simp only[cond_false]at hb;cases hq2:o2.isNil with
    | false=>rw[hq2]at hb;cases hb
    | true =>
     rw[hq2]at hb;simp only[cond_true]at hb;have e2:a2=none:=h2.2.2.1.1 hq2;subst e2;cases hn:nnil o1 x1 with
     | false=>rw[hn]at hb;cases hb
     | true =>
      rw[hn]at hb;simp only[cond_true,oI]at hb;obtain⟨p,rfl⟩:=nn h1 hn hq;simp[Op.equalIn,run_underlying hu,<-hb]
  ·rename_i ms hu;cases he;simp only[eqv,eqIfc]at hb;split at hb<;>first | (cases hb;done) | skip
   ·cases hb;simp only[Rv]at hx hy;subst hx;subst hy;simp[Op.equalIn,run_underlying hu]
   ·cases hb;simp only[Rv]at hx hy;obtain⟨u',rfl,_⟩:=hy;subst hx;simp[Op.equalIn,run_underlying hu]
   ·cases hb;simp only[Rv]at hx hy;obtain⟨u',rfl,_⟩:=hx;subst hy;simp[Op.equalIn,run_underlying hu]
  ·rename_i hu;cases he;simp only[eqv,eqFn]at hb;split at hb<;>first | (cases hb;done) | skip
   ·cases hb;simp only[Rv]at hx hy;subst hx;subst hy;simp[Op.equalIn,run_underlying hu]
   ·cases hb;simp only[Rv]at hx hy;obtain⟨u1,u2,rfl,_⟩:=hy;subst hx;simp[Op.equalIn,run_underlying hu]
   ·cases hb;simp only[Rv]at hx hy;obtain⟨u1,u2,rfl,_⟩:=hx;subst hy;simp[Op.equalIn,run_underlying hu]
  ·rename_i k e hu;cases he;simp only[eqv,eqMap]at hb;split at hb<;>first | (cases hb;done) | skip
   ·cases hb;simp only[Rv]at hx hy;subst hx;subst hy;simp[Op.equalIn,run_underlying hu]
   ·cases hb;simp only[Rv]at hx hy;subst hx;obtain⟨_,rfl⟩:=hy;simp[Op.equalIn,run_underlying hu]
   ·cases hb;simp only[Rv]at hx hy;obtain⟨_,rfl⟩:=hx;subst hy;simp[Op.equalIn,run_underlying hu]
  ·rename_i fs hu;split at he
   ·cases he
   ·rename_i hst;obtain⟨ks,hm,rfl⟩:=Option.map_eq_some_iff.1 he
    ·skip
     clear he
     simp only[eqv]at hb;cases hag:aggs x y with
     | none=>rw[hag]at hb;cases hb
     | some p =>
     rw[hag]at hb;unfold aggs at hag;split at hag<;>first | (cases hag;done) | skip
     rename_i c1 c2;cases hag;simp only at hb;simp only[Rv]at hx hy;obtain⟨v1,rfl,r1⟩:=hx;obtain⟨v2,rfl,r2⟩:=hy;have hff:P.fieldsOf t=fs:=by simp[Program.fieldsOf,hu]
     have hu':P.underlying t=some (.struct (P.fieldsOf t)):=by rw[hff];exact hu
     rw[run_equalIn_struct w n t _ _ hu' (by simpa using hst),hff]
     clear hu hu' hff hst
     generalize fs.toList=l at hm
     induction l generalizing ks with
     | nil =>
      have:=mapM_some_nil hm;subst this;simp only[eqvs,oI]at hb;subst hb;simp[Op.eqFields]
     | cons f l ih =>
      obtain⟨k,ks',h1,h2,rfl⟩:=mapM_some_cons hm;split at h1
      ·cases h1
      ·rename_i hname;split at h1
       ·rename_i hagg;cases hk:eqkP P d f.type with
        | none=>rw[hk]at h1;cases h1
        | some ek =>
         rw[hk]at h1;simp only[Option.map_some,oI]at h1;subst h1;simp only[eqvs]at hb;split at hb
         ·rename_i x y hx hy;obtain⟨u,hu1,hu2⟩:=r1.get hx;obtain⟨v,hv1,hv2⟩:=r2.get hy;have p1:(part f.type ⟨v1⟩ f.offset).run P w=.ok u w:=by simp[part,run_isAgg hagg,hu1]
          have p2:(part f.type ⟨v2⟩ f.offset).run P w=.ok v w:=by simp[part,run_isAgg hagg,hv1]
          simp only[Op.eqFields,ne_eq,hname,not_false_eq_true,if_true,Sem.run_bind,p1,p2,Result.andThen_ok];split at hb
          ·rename_i hq;rw[eqv_sound w d hk hq hu2 hv2 n (by omega)];simp only[Result.andThen_ok,Bool.not_true,Bool.false_eq_true,if_false];exact ih ks' hb h2
          ·rename_i hq;cases hb;rw[eqv_sound w d hk hq hu2 hv2 n (by omega)];simp
          ·cases hb
         ·cases hb
       ·cases h1
  ·rename_i len e hu;split at he
   ·rename_i hagg hsz;obtain⟨k,hk,rfl⟩:=Option.map_eq_some_iff.1 he
    clear he
    simp only[eqv]at hb;cases hag:aggs x y with
    | none=>rw[hag]at hb;cases hb
    | some p =>
     rw[hag]at hb;unfold aggs at hag;split at hag<;>first | (cases hag;done) | skip
     rename_i c1 c2;cases hag;simp only at hb;simp only[Rv]at hx hy;obtain⟨v1,rfl,r1⟩:=hx;obtain⟨v2,rfl,r2⟩:=hy;simp only[Op.equalIn,Sem.run_bind,run_underlying hu,Result.andThen_ok,run_sizeP hsz,Nat.mul_one];simp only[Std.Legacy.Range.forIn_eq_forIn_range',Std.Legacy.Range.size,Nat.sub_zero,Nat.add_one_sub_one,Nat.div_one];rw[List.range_eq_range']at hb;generalize List.range' 0 len=l at hb ⊢
     induction l with
     | nil =>
      simp only[List.map_nil,eqvs,oI]at hb;subst hb;simp
     | cons i l ih =>
      simp only[List.map_cons,eqvs]at hb;split at hb
      ·rename_i x y hx hy;obtain⟨u,hu1,hu2⟩:=r1.get hx;obtain⟨v,hv1,hv2⟩:=r2.get hy;have p1:(part e ⟨v1⟩ i).run P w=.ok u w:=by simp[part,run_isAgg hagg,hu1]
       have p2:(part e ⟨v2⟩ i).run P w=.ok v w:=by simp[part,run_isAgg hagg,hv1]
       simp only[List.forIn_cons,Sem.run_bind,p1,p2,Result.andThen_ok];split at hb
       ·rename_i hq;rw[eqv_sound w d hk hq hu2 hv2 n (by omega)];simp only[Result.andThen_ok,Bool.not_true,Bool.false_eq_true,if_false,Sem.run_pure];exact ih hb
       ·rename_i hq;cases hb;rw[eqv_sound w d hk hq hu2 hv2 n (by omega)];simp
       ·cases hb
      ·cases hb
   ·cases he
  ·cases he
theorem binI_sound {op:BinOp}{k:IntKind}{x y:Int}{z:AV}(h:binI op k x y=some z){t:TypeId}:∃v,Rv S G w z v/\(binOp op t (.int k x) (.int k y)).run P w=.ok v w:=by
 cases op<;>simp only[binI]at h
 case add=>cases h;exact⟨.int k (wr k (x+y)),by simp only[Rv],by simp[binOp,Op.intArith,wr_eq]⟩
 case sub=>cases h;exact⟨.int k (wr k (x-y)),by simp only[Rv],by simp[binOp,Op.intArith,wr_eq]⟩
 case mul=>cases h;exact⟨.int k (wr k (x*y)),by simp only[Rv],by simp[binOp,Op.intArith,wr_eq]⟩
 case quo =>
  cases hb:(y == 0) with
  | true=>rw[hb]at h;cases h
  | false =>
   rw[hb]at h;cases h;have hy:y≠0:=by simpa using hb
   exact⟨.int k (wr k (x.tdiv y)),by simp only[Rv],by simp[binOp,Op.intDiv,hy,wr_eq]⟩
 case rem =>
  cases hb:(y == 0) with
  | true=>rw[hb]at h;cases h
  | false =>
   rw[hb]at h;cases h;have hy:y≠0:=by simpa using hb
   exact⟨.int k (x.tmod y),by simp only[Rv],by simp[binOp,Op.intDiv,hy]⟩
 case and=>cases h;exact⟨_,by simp only[Rv];rfl,by simp only[binOp,Op.intBits,ne_eq,not_true_eq_false,if_false,Sem.run_pure]⟩
 case or=>cases h;exact⟨_,by simp only[Rv];rfl,by simp only[binOp,Op.intBits,ne_eq,not_true_eq_false,if_false,Sem.run_pure]⟩
 case xor=>cases h;exact⟨_,by simp only[Rv];rfl,by simp only[binOp,Op.intBits,ne_eq,not_true_eq_false,if_false,Sem.run_pure]⟩
 case andNot=>cases h;exact⟨_,by simp only[Rv];rfl,by simp only[binOp,Op.intBits,ne_eq,not_true_eq_false,if_false,Sem.run_pure]⟩
 case eql=>cases h;exact⟨.bool (x == y),by simp only[Rv],by simp[binOp,Op.intCmp]⟩
 case neq=>cases h;exact⟨.bool (x != y),by simp only[Rv],by simp[binOp,Op.intCmp]⟩
 case lss=>cases h;exact⟨.bool (decide (x<y)),by simp only[Rv],by simp[binOp,Op.intCmp]⟩
 case leq=>cases h;exact⟨.bool (decide (x<=y)),by simp only[Rv],by simp[binOp,Op.intCmp]⟩
 case gtr=>cases h;exact⟨.bool (decide (x > y)),by simp only[Rv],by simp[binOp,Op.intCmp]⟩
 case geq=>cases h;exact⟨.bool (decide (x ≥ y)),by simp only[Rv],by simp[binOp,Op.intCmp]⟩
 all_goals cases h
theorem binS_sound {op:BinOp}{x y:List UInt8}{z:AV}(h:binS op x y=some z){t:TypeId}:∃v,Rv S G w z v/\(binOp op t (.string ⟨⟨x⟩⟩) (.string ⟨⟨y⟩⟩)).run P w=.ok v w:=by
 have e1:(⟨⟨x⟩⟩:ByteArray).toList=x:=by rw[ByteArray.toList_eq]
 have e2:(⟨⟨y⟩⟩:ByteArray).toList=y:=by rw[ByteArray.toList_eq]
 cases op<;>simp only[binS]at h<;>first | (cases h;done) | skip
 case add =>
  cases hb:Nat.ble (x.length+y.length) 9223372036854775807 with
  | false=>rw[hb]at h;cases h
  | true =>
   rw[hb]at h;cases h;have hle:=bL hb;have hap:(⟨⟨x⟩⟩:ByteArray)++⟨⟨y⟩⟩=⟨⟨x++y⟩⟩:=by
    apply ByteArray.ext
    simp
   have hs:¬((((⟨⟨x⟩⟩:ByteArray).size+(⟨⟨y⟩⟩:ByteArray).size:Nat):Int) > IntKind.i64.max):=by
    have p63:(2:Int) ^ 63=9223372036854775808:=by decide
    have m:IntKind.i64.max=9223372036854775807:=by simp only[IntKind.max,IntKind.signed,IntKind.bits,if_true,Nat.reduceSub,p63];decide
    rw[m];simp only[ByteArray.size,List.size_toArray];omega
   refine⟨.string ⟨⟨x++y⟩⟩,by simp only[Rv],?_⟩;simp only[binOp,Op.stringOp,if_neg hs,hap,Sem.run_pure]
 case eql=>cases h;exact⟨.bool (beqB x y),by simp only[Rv],by simp[binOp,Op.stringOp,e1,e2,beqB_eq]⟩
 case neq=>cases h;exact⟨.bool (!beqB x y),by simp only[Rv],by simp[binOp,Op.stringOp,e1,e2,beqB_eq]⟩
 case lss=>cases h;exact⟨.bool (ltB x y),by simp only[Rv],by simp[binOp,Op.stringOp,e1,e2,ltB_eq]⟩
 case leq=>cases h;exact⟨.bool (ltB x y || beqB x y),by simp only[Rv],by simp[binOp,Op.stringOp,e1,e2,beqB_eq,ltB_eq]⟩
 case gtr=>cases h;exact⟨.bool (!(ltB x y || beqB x y)),by simp only[Rv],by simp[binOp,Op.stringOp,e1,e2,beqB_eq,ltB_eq]⟩
 case geq=>cases h;exact⟨.bool (!ltB x y),by simp only[Rv],by simp[binOp,Op.stringOp,e1,e2,ltB_eq]⟩
end

section
variable {P:Program}{gt:GT}{O:Orig}{S:St}{G:Gh}{w:World}{env env':Env}{a:Act}{S':St}{o:Oper}
theorem eqGuard_ok (w:World){op:BinOp}{t:TypeId}{x y:Operand}{u v:Value}(h1:u=.nilIface->v=.nilIface->(isConstO x || isConstO y)=true)(h2:∀xs,u=.agg xs->P.eqGuardType P.depth t=false) :
  (eqGuard op t x y u v).run P w=.ok () w:=by
 have key:(eqGuard .eql t x y u v).run P w=.ok () w:=by
  unfold eqGuard
  dsimp only
  split
  ·rename_i hc;simp at hc
  ·split
   ·have:=h1 rfl rfl;rw[if_pos]
    ·rfl
    ·unfold isConstO at this;exact this
   ·rename_i xs ys;simp[run_program,h2 xs rfl]
   ·rfl
 cases op<;>first | exact key | (simp[eqGuard];done)
def eqNum:Value->Bool
 |.int _ _ |.float _ _ |.complex _ _ _ |.string _=>true
 | _=>false
theorem binOp_eql {t:TypeId}{u v:Value}(h:eqNum u=false):binOp .eql t u v=(do pure (.bool (<-Op.equal t u v)):Sem Value):=by
 cases u<;>first | (simp[eqNum]at h;done) | rfl
theorem binOp_neq {t:TypeId}{u v:Value}(h:eqNum u=false):binOp .neq t u v=(do pure (.bool (!(<-Op.equal t u v))):Sem Value):=by
 cases u<;>first | (simp[eqNum]at h;done) | rfl
def eqAV:AV->Bool
 |.bool _ |.nilp |.ptr _ _ |.eptr _ _ _ _ _ |.sl _ _ _ |.nilif |.ifc _ _ |.nilfn |.fn _ _ _ |.nilmap |.map _ |.agg _=>true
 | _=>false
theorem eqAV_num {x:AV}{u:Value}(h:eqAV x=true)(hx:Rv S G w x u):eqNum u=false:=by
 cases x<;>simp only[eqAV,Bool.false_eq_true]at h<;>simp only[Rv]at hx
 case bool=>subst hx;rfl
 case nilp=>subst hx;rfl
 case ptr=>rw[hx.2];rfl
 case eptr=>obtain⟨_,_,_,_,_,_,rfl⟩:=hx;rfl
 case sl=>obtain⟨_,_,_,rfl,_⟩:=hx;rfl
 case fn=>obtain⟨_,_,rfl,_⟩:=hx;rfl
 case nilfn=>subst hx;rfl
 case ifc=>obtain⟨_,rfl,_⟩:=hx;rfl
 case nilif=>subst hx;rfl
 case agg=>obtain⟨_,rfl,_⟩:=hx;rfl
 case nilmap=>subst hx;rfl
 case map=>rw[hx.2];rfl
theorem eqv_av {e:EqK}{x y:AV}{b:Bool}(h:eqv e x y=some b)(h1:e≠.int)(h2:e≠.str):eqAV x=true:=by
 cases e<;>simp only[eqv]at h
 case bool=>unfold eqBool at h;split at h<;>first | rfl | cases h
 case int=>exact absurd rfl h1
 case str=>exact absurd rfl h2
 case ptr=>unfold eqPtr at h;split at h<;>first | rfl | cases h
 case sl=>unfold eqSl at h;split at h<;>first | rfl | cases h
 case ifc=>unfold eqIfc at h;split at h<;>first | rfl | cases h
 case fn=>unfold eqFn at h;split at h<;>first | rfl | cases h
 case map=>unfold eqMap at h;split at h<;>first | rfl | cases h
 case st =>
  cases hq:aggs x y with
  | none=>rw[hq]at h;cases h
  | some p=>unfold aggs at hq;split at hq<;>first | rfl | cases hq
theorem eqkO_some {t:TypeId}{x y:Operand}{e:EqK}(h:eqkO P t x y=some e):eqkP P 8 t=some e/\(e=.ifc->(isConstO x || isConstO y)=true)/\(∀fs,e=.st fs->P.eqGuardType P.depth t=false):=by
 unfold eqkO at h;split at h
 ·rename_i hk;split at h
  ·rename_i hc;cases h;exact⟨hk,λ_=>hc,λfs e=>(by cases e)⟩
  ·cases h
 ·rename_i fs hk;split at h
  ·cases h
  ·rename_i hg;cases h;exact⟨hk,λe=>(by cases e),λfs' _=>by simpa using hg⟩
 ·rename_i h1 h2;exact⟨h,λe'=>(h1 (by rw[h,e'])).elim,λfs e'=>(h2 fs (by rw[h,e'])).elim⟩
theorem eq_case {op:BinOp}{t:TypeId}{x y:Operand}{e:EqK}{xa ya:AV}{b:Bool}{vx vy:Value}(hk:eqkO P t x y=some e)(he:eqv e xa ya=some b)(h1:e≠.int)(h2:e≠.str)(rx:Rv S G w xa vx)(ry:Rv S G w ya vy) :
  (eqGuard op t x y vx vy).run P w=.ok () w/\eqNum vx=false/\(Op.equal t vx vy).run P w=.ok b w:=by
 obtain⟨g1,g2,g3⟩:=eqkO_some hk;refine⟨eqGuard_ok w (λe1 e2=>?_) (λxs e1=>?_),eqAV_num (eqv_av he h1 h2) rx,?_⟩
 ·subst e1;subst e2;refine g2 ?_;cases e<;>simp only[eqv]at he
  case bool=>unfold eqBool at he;split at he<;>first | (simp only[Rv]at rx;cases rx;done) | cases he
  case int=>exact absurd rfl h1
  case str=>exact absurd rfl h2
  case ptr=>unfold eqPtr at he;split at he<;>first | (simp only[Rv]at rx;cases rx;done) | (simp only[Rv]at rx;cases rx.2;done) | (simp only[Rv]at rx;obtain⟨_,_,_,_,_,_,h⟩:=rx;cases h;done) | cases he
  case sl=>unfold eqSl at he;split at he<;>first | (simp only[Rv]at rx;obtain⟨_,_,_,h,_⟩:=rx;cases h;done) | cases he
  case ifc=>rfl
  case fn=>unfold eqFn at he;split at he<;>first | (simp only[Rv]at rx;cases rx;done) | (simp only[Rv]at rx;obtain⟨_,_,h,_⟩:=rx;cases h;done) | cases he
  case map=>unfold eqMap at he;split at he<;>first | (simp only[Rv]at rx;cases rx;done) | (simp only[Rv]at rx;cases rx.2;done) | cases he
  case st =>
   cases hq:aggs xa ya with
   | none=>rw[hq]at he;cases he
   | some p=>unfold aggs at hq;split at hq<;>first | (simp only[Rv]at rx;obtain⟨_,h,_⟩:=rx;cases h;done) | cases hq
 ·subst e1;cases e<;>simp only[eqv]at he
  case bool=>unfold eqBool at he;split at he<;>first | (simp only[Rv]at rx;cases rx;done) | cases he
  case int=>exact absurd rfl h1
  case str=>exact absurd rfl h2
  case ptr=>unfold eqPtr at he;split at he<;>first | (simp only[Rv]at rx;cases rx;done) | (simp only[Rv]at rx;cases rx.2;done) | (simp only[Rv]at rx;obtain⟨_,_,_,_,_,_,h⟩:=rx;cases h;done) | cases he
  case sl=>unfold eqSl at he;split at he<;>first | (simp only[Rv]at rx;obtain⟨_,_,_,h,_⟩:=rx;cases h;done) | cases he
  case ifc=>unfold eqIfc at he;split at he<;>first | (simp only[Rv]at rx;cases rx;done) | (simp only[Rv]at rx;obtain⟨_,h,_⟩:=rx;cases h;done) | cases he
  case fn=>unfold eqFn at he;split at he<;>first | (simp only[Rv]at rx;cases rx;done) | (simp only[Rv]at rx;obtain⟨_,_,h,_⟩:=rx;cases h;done) | cases he
  case map=>unfold eqMap at he;split at he<;>first | (simp only[Rv]at rx;cases rx;done) | (simp only[Rv]at rx;cases rx.2;done) | cases he
  case st fs=>exact g3 fs rfl
 ·unfold Op.equal Op.maxDepth;exact eqv_sound w 8 g1 he rx ry 10000 (by omega)
theorem so_bin (h:Good P gt O S G w env a)(hd:∀d,o.dst=some d->O.N.ok d){op:BinOp}{t u:TypeId}{x y:Operand}{dx dy:DOpd}{ek:Option EqK}(hop:o.op=.binOp op t x y u)(hx:opdP P t x=some dx)(hy:opdP P u y=some dy)
  (hek:(op=.eql\/op=.neq)->ek=eqkO P t x y) (hs:stepO gt o.dst env S (.bin op ek dx dy)=.done env' S'):OpOK P gt O o w a env' S':=by
 obtain⟨fb,hfr⟩:=h.fr;simp only[stepO]at hs;split at hs
 ·rename_i xa ya hxa hya;refine ok_val' h hd hs λz hz=>?_;have rx:=opd_sound hx hxa hfr;have ry:=opd_sound hy hya hfr;generalize hvx:a.eval x=vx at rx;generalize hvy:a.eval y=vy at ry;have fin:∀{v:Value},(binOp op t vx vy).run P w=.ok v w->(eqGuard op t x y vx vy).run P w=.ok () w->(execOp a.eval o).run P w=.ok (.value v) w:=λh1 h2=>by
   simp only[execOp,hop,Sem.run_bind,hvx,hvy,h2,Result.andThen_ok,h1,Sem.run_pure]
  unfold binV at hz;split at hz
  ·rename_i k p k' q;simp only[Rv]at rx ry;subst ry;subst rx;cases hb:decide (q<0) with
   | true=>rw[hb]at hz;cases hz
   | false =>
    rw[hb]at hz;cases hz;have hq:¬q<0:=by simpa using hb
    refine⟨.int k (wr k (p*2 ^ min q.toNat k.bits)),by simp only[Rv],fin ?_ (eqGuard_ok w (λe=>by cases e) (λxs e=>by cases e))⟩;simp[binOp,Op.shift,hq,wr_eq]
  ·rename_i k p k' q;simp only[Rv]at rx ry;subst ry;subst rx;cases hb:decide (q<0) with
   | true=>rw[hb]at hz;cases hz
   | false =>
    rw[hb]at hz;cases hz;have hq:¬q<0:=by simpa using hb
    refine⟨.int k (p.fdiv (2 ^ min q.toNat k.bits)),by simp only[Rv],fin ?_ (eqGuard_ok w (λe=>by cases e) (λxs e=>by cases e))⟩;simp[binOp,Op.shift,hq]
  ·rename_i k p k' q _ _;split at hz
   ·rename_i hk;subst hk;simp only[Rv]at rx ry;subst ry;subst rx;obtain⟨v,h1,h2⟩:=binI_sound (S:=S) (G:=G) (w:=w) (P:=P) hz (t:=t);exact⟨v,h1,fin h2 (eqGuard_ok w (λe=>by cases e) (λxs e=>by cases e))⟩
   ·cases hz
  ·simp only[Rv]at rx ry;subst ry;subst rx;obtain⟨v,h1,h2⟩:=binS_sound (S:=S) (G:=G) (w:=w) (P:=P) hz (t:=t);exact⟨v,h1,fin h2 (eqGuard_ok w (λe=>by cases e) (λxs e=>by cases e))⟩
  ·rename_i hni hns;have hek:=hek (.inl rfl);cases ek with
   | none=>cases hz
   | some e =>
    obtain⟨b,hb,rfl⟩:=Option.map_eq_some_iff.1 hz;have n1:e≠.int:=λe'=>by
     subst e';simp only[eqv]at hb;unfold eqInt at hb;split at hb
     ·exact hni _ _ _ _ rfl rfl
     ·cases hb
    have n2:e≠.str:=λe'=>by
     subst e';simp only[eqv]at hb;unfold eqStr at hb;split at hb
     ·exact hns _ _ rfl rfl
     ·cases hb
    obtain⟨k1,k2,k3⟩:=eq_case (op:=.eql) hek.symm hb n1 n2 rx ry;refine⟨.bool b,by simp only[Rv],fin ?_ k1⟩;rw[binOp_eql k2];simp[k3]
  ·rename_i hni hns;have hek:=hek (.inr rfl);cases ek with
   | none=>cases hz
   | some e =>
    obtain⟨b,hb,rfl⟩:=Option.map_eq_some_iff.1 hz;have n1:e≠.int:=λe'=>by
     subst e';simp only[eqv]at hb;unfold eqInt at hb;split at hb
     ·exact hni _ _ _ _ rfl rfl
     ·cases hb
    have n2:e≠.str:=λe'=>by
     subst e';simp only[eqv]at hb;unfold eqStr at hb;split at hb
     ·exact hns _ _ rfl rfl
     ·cases hb
    obtain⟨k1,k2,k3⟩:=eq_case (op:=.neq) hek.symm hb n1 n2 rx ry;refine⟨.bool (!b),by simp only[Rv],fin ?_ k1⟩;rw[binOp_neq k2];simp[k3]
  ·cases hz
 ·cases hs
end

section
variable {P:Program}{gt:GT}{O:Orig}{S:St}{G:Gh}{w:World}{env env':Env}{a:Act}{S':St}{o:Oper}
theorem so_un (h:Good P gt O S G w env a)(hd:∀d,o.dst=some d->O.N.ok d){op:UnOp}{t:TypeId}{x:Operand}{dx:DOpd}(hop:o.op=.unOp op t x)(hx:opdP P t x=some dx)
  (hs:stepO gt o.dst env S (.un op dx)=.done env' S'):OpOK P gt O o w a env' S':=by
 obtain⟨fb,hfr⟩:=h.fr;simp only[stepO]at hs;refine ok_val' h hd hs λz hz=>?_;cases hxa:opd env dx with
 | none=>rw[hxa]at hz;cases hz
 | some xa =>
  rw[hxa]at hz;simp only[Option.bind_some]at hz;have rx:=opd_sound hx hxa hfr;unfold unV at hz;split at hz
  ·rename_i k n;cases hz;simp only[Rv]at rx;exact⟨.int k (wr k (0-n)),by simp only[Rv],by simp[execOp,hop,rx,Op.unary,Op.intArith,wr_eq]⟩
  ·rename_i b;cases hz;simp only[Rv]at rx;exact⟨.bool (!b),by simp only[Rv],by simp[execOp,hop,rx,Op.unary]⟩
  ·cases hz
theorem so_cvI (h:Good P gt O S G w env a)(hd:∀d,o.dst=some d->O.N.ok d){s d:TypeId}{k0 k:IntKind}{x:Operand}{dx:DOpd}(hop:o.op=.convert s d x)(hu:P.underlying s=some (.int k0))(hv:P.underlying d=some (.int k))(hx:opdP P s x=some dx)
  (hs:stepO gt o.dst env S (.cvI k dx)=.done env' S'):OpOK P gt O o w a env' S':=by
 obtain⟨fb,hfr⟩:=h.fr;simp only[stepO]at hs;split at hs
 ·rename_i k1 n hxa;simp only[SR.done.injEq]at hs;obtain⟨rfl,rfl⟩:=hs;have rx:=opd_sound hx hxa hfr;simp only[Rv]at rx;exact ok_val h hd (v:=.int k (wr k n)) (by simp only[Rv]) (by simp[execOp,hop,convert,run_underlying hu,run_underlying hv,rx,Conv.intToInt,wr_eq])
 ·cases hs
theorem so_cvId (h:Good P gt O S G w env a)(hd:∀d,o.dst=some d->O.N.ok d){s d:TypeId}{x:Operand}{dx:DOpd}(hop:o.op=.convert s d x)(hu:P.underlying s=some .string)(hv:P.underlying d=some .string)(hx:opdP P s x=some dx)
  (hs:stepO gt o.dst env S (.cvId dx)=.done env' S'):OpOK P gt O o w a env' S':=by
 obtain⟨fb,hfr⟩:=h.fr;simp only[stepO]at hs;split at hs
 ·rename_i s1 hxa;simp only[SR.done.injEq]at hs;obtain⟨rfl,rfl⟩:=hs;have rx:=opd_sound hx hxa hfr;have rx':=rx;simp only[Rv]at rx';exact ok_val h hd rx (by simp[execOp,hop,convert,run_underlying hu,run_underlying hv,rx'])
 ·cases hs
theorem so_cvRS (h:Good P gt O S G w env a)(hd:∀d,o.dst=some d->O.N.ok d){s d:TypeId}{k0:IntKind}{x:Operand}{dx:DOpd}(hop:o.op=.convert s d x)(hu:P.underlying s=some (.int k0))(hv:P.underlying d=some .string)(hx:opdP P s x=some dx)
  (hs:stepO gt o.dst env S (.cvRS dx)=.done env' S'):OpOK P gt O o w a env' S':=by
 obtain⟨fb,hfr⟩:=h.fr;simp only[stepO]at hs;split at hs
 ·rename_i k1 n hxa;simp only[SR.done.injEq]at hs;obtain⟨rfl,rfl⟩:=hs;have rx:=opd_sound hx hxa hfr;simp only[Rv]at rx;exact ok_val h hd (v:=.string (Utf8.encode n)) (by simp only[Rv]) (by simp[execOp,hop,convert,run_underlying hu,run_underlying hv,rx,Conv.intToString])
 ·cases hs
theorem so_mki (h:Good P gt O S G w env a)(hd:∀d,o.dst=some d->O.N.ok d){t:TypeId}{td:TypeDesc}{x:Operand}{dx:DOpd}(hop:o.op=.makeInterface t x)(hu:P.underlying t=some td)(hni:∀ms,td≠.interface ms)(hx:opdP P t x=some dx)
  (hs:stepO gt o.dst env S (.mki t dx)=.done env' S'):OpOK P gt O o w a env' S':=by
 obtain⟨fb,hfr⟩:=h.fr;simp only[stepO]at hs;refine ok_val' h hd hs λz hz=>?_;obtain⟨xa,hxa,rfl⟩:=Option.map_eq_some_iff.1 hz;have rx:=opd_sound hx hxa hfr;refine⟨.iface t (a.eval x),by simp only[Rv];exact⟨_,rfl,rx⟩,?_⟩;simp only[execOp,hop,Instr.makeInterface,Sem.run_bind,run_underlying hu,Result.andThen_ok];cases td<;>first | rfl | exact absurd rfl (hni _)
theorem so_mkf (h:Good P gt O S G w env a)(hd:∀d,o.dst=some d->O.N.ok d){f:FuncId}{fs cs:Array Operand}{df dc:List DOpd}{tf tc:List TypeId}(hop:o.op=.makeFunc (.func f) fs cs)(hf:opdsP P tf fs.toList=some df)(hc:opdsP P tc cs.toList=some dc)
  (hs:stepO gt o.dst env S (.mkf f df dc)=.done env' S'):OpOK P gt O o w a env' S':=by
 obtain⟨fb,hfr⟩:=h.fr;simp only[stepO]at hs;split at hs
 ·rename_i va vb h1 h2;simp only[SR.done.injEq]at hs;obtain⟨rfl,rfl⟩:=hs;have r1:=opds_sound hfr hf h1;have r2:=opds_sound hfr hc h2;refine ok_val h hd (v:=.func (.func f) (fs.map a.eval) (cs.map a.eval)) ?_ (by simp[execOp,hop,Instr.makeFunc]);simp only[Rv];exact⟨_,_,by congr 1<;>(apply Array.ext';simp),r1,r2⟩
 ·cases hs
theorem so_mkm (h:Good P gt O S G w env a)(hd:∀d,o.dst=some d->O.N.ok d){t:TypeId}(hop:o.op=.makeMap t none)
  (hs:stepO gt o.dst env S .mkm=.done env' S'):OpOK P gt O o w a env' S':=by
 simp only[stepO,SR.done.injEq]at hs;obtain⟨rfl,rfl⟩:=hs;have h':=h.step (Tr.newMap h.inv);refine⟨_,_,.inl ⟨.map (some w.heap.size),?_,h'.putV hd ?_⟩⟩
 ·simp[execOp,hop,Instr.makeMap,newObj,Sem.run]
 ·simp only[Rv,upd_same];exact⟨Nat.lt_succ_self _,trivial⟩
theorem so_ext (h:Good P gt O S G w env a)(hd:∀d,o.dst=some d->O.N.ok d){x:Operand}{i:Nat}{dx:DOpd}{t:TypeId}(hop:o.op=.extract x i)(hx:opdP P t x=some dx)
  (hs:stepO gt o.dst env S (.ext dx i)=.done env' S'):OpOK P gt O o w a env' S':=by
 obtain⟨fb,hfr⟩:=h.fr;simp only[stepO]at hs;split at hs
 ·rename_i vs hxa;refine ok_val' h hd hs λz hz=>?_;have rx:=opd_sound hx hxa hfr;simp only[Rv]at rx;obtain⟨us,hu,hr⟩:=rx;obtain⟨v,h1,h2⟩:=hr.get hz;exact⟨v,h2,by simp[execOp,hop,hu,Instr.extract,h1]⟩
 ·cases hs
theorem run_builtin {c:Call}{b:Builtin}(hop:o.op=.call c)(hc:c.callee=.builtin b){S0:Sem Value}(hb:∀cs,builtin b c.argTypes o.type cs (c.args.map a.eval)=(do pure (.value (<-S0)))){v:Value}{w':World}(hv:S0.run P w=.ok v w') :
  (execOp a.eval o).run P w=.ok (.value v) w':=by
 simp only[execOp,hop,resolve,hc,Sem.run_bind,Sem.run_pure,Result.andThen_ok,invoke,hb,hv]
theorem so_lenS (h:Good P gt O S G w env a)(hd:∀d,o.dst=some d->O.N.ok d){c:Call}{t:TypeId}{x:Operand}{dx:DOpd}(hop:o.op=.call c)(hc:c.callee=.builtin .len)(ht:c.argTypes = #[t])(ha:c.args = #[x])
  (hu:P.underlying t=some .string) (hx:opdP P t x=some dx)
  (hs:stepO gt o.dst env S (.lenS dx)=.done env' S'):OpOK P gt O o w a env' S':=by
 obtain⟨fb,hfr⟩:=h.fr;simp only[stepO]at hs;split at hs
 ·rename_i s hxa;simp only[SR.done.injEq]at hs;obtain⟨rfl,rfl⟩:=hs;have rx:=opd_sound hx hxa hfr;simp only[Rv]at rx;refine ok_val h hd (v:=.int .i64 s.length) (by simp only[Rv]) (run_builtin hop hc (λcs=>rfl) ?_);simp only[Builtin.len_,ht,ha,List.map_toArray,List.map_cons,List.map_nil,List.getElem?_toArray,List.getElem?_cons_zero,Sem.run_bind,run_underlying hu,Result.andThen_ok,rx];rfl
 ·cases hs
theorem so_len (h:Good P gt O S G w env a)(hd:∀d,o.dst=some d->O.N.ok d){c:Call}{t e:TypeId}{x:Operand}{dx:DOpd}(hop:o.op=.call c)(hc:c.callee=.builtin .len)(ht:c.argTypes = #[t])(ha:c.args = #[x])
  (hu:P.underlying t=some (.slice e)) (hx:opdP P t x=some dx)
  (hs:stepO gt o.dst env S (.len dx)=.done env' S'):OpOK P gt O o w a env' S':=by
 obtain⟨fb,hfr⟩:=h.fr;simp only[stepO]at hs;split at hs
 ·rename_i es so xs hxa;simp only[SR.done.injEq]at hs;obtain⟨rfl,rfl⟩:=hs;have rx:=opd_sound hx hxa hfr;simp only[Rv]at rx;obtain⟨p,len,cap,hv,hsl,_⟩:=rx;have hl:=hsl.1;subst hl;refine ok_val h hd (v:=.int .i64 xs.length) (by simp only[Rv]) (run_builtin hop hc (λcs=>rfl) ?_);simp only[Builtin.len_,ht,ha,List.map_toArray,List.map_cons,List.map_nil,List.getElem?_toArray,List.getElem?_cons_zero,Sem.run_bind,run_underlying hu,Result.andThen_ok,hv];rfl
 ·cases hs
theorem so_lenC (h:Good P gt O S G w env a)(hd:∀d,o.dst=some d->O.N.ok d){c:Call}{t e:TypeId}{n:Nat}{x:Operand}(hop:o.op=.call c)(hc:c.callee=.builtin .len)(ht:c.argTypes = #[t])(ha:c.args = #[x])
  (hu:P.underlying t=some (.array n e)) (hs:stepO gt o.dst env S (.lenC n)=.done env' S'):OpOK P gt O o w a env' S':=by
 simp only[stepO,SR.done.injEq]at hs;obtain⟨rfl,rfl⟩:=hs;refine ok_val h hd (v:=.int .i64 n) (by simp only[Rv]) (run_builtin hop hc (λcs=>rfl) ?_);simp only[Builtin.len_,ht,ha,List.map_toArray,List.map_cons,List.map_nil,List.getElem?_toArray,List.getElem?_cons_zero,Sem.run_bind,run_underlying hu,Result.andThen_ok];rfl
theorem RlE.length:∀{es:List (AV×AV)} {ents:List MapEntry},RlE S G w es ents->ents.length=es.length
 | [],_,h=>by simp only[RlE]at h;subst h;rfl
 | (k,v)::r,_,h=>by
  obtain⟨e,es',rfl,_,_,h3⟩:=h;simp[RlE.length h3]
theorem so_lenM (h:Good P gt O S G w env a)(hd:∀d,o.dst=some d->O.N.ok d){c:Call}{t kt e:TypeId}{x:Operand}{dx:DOpd}(hop:o.op=.call c)(hc:c.callee=.builtin .len)(ht:c.argTypes = #[t])(ha:c.args = #[x])
  (hu:P.underlying t=some (.map kt e)) (hx:opdP P t x=some dx)
  (hs:stepO gt o.dst env S (.lenM dx)=.done env' S'):OpOK P gt O o w a env' S':=by
 obtain⟨fb,hfr⟩:=h.fr;simp only[stepO]at hs;split at hs
 ·rename_i hxa;simp only[SR.done.injEq]at hs;obtain⟨rfl,rfl⟩:=hs;have rx:=opd_sound hx hxa hfr;simp only[Rv]at rx;refine ok_val h hd (v:=.int .i64 0) (by simp only[Rv]) (run_builtin hop hc (λcs=>rfl) ?_);simp only[Builtin.len_,ht,ha,List.map_toArray,List.map_cons,List.map_nil,List.getElem?_toArray,List.getElem?_cons_zero,Sem.run_bind,run_underlying hu,Result.andThen_ok,rx];rfl
 ·rename_i id hxa;split at hs
  ·rename_i es hm;simp only[SR.done.injEq]at hs;obtain⟨rfl,rfl⟩:=hs;have rx:=opd_sound hx hxa hfr;simp only[Rv]at rx;obtain⟨hid,rx⟩:=rx;obtain⟨es',ents,clk,h1,h2,h3⟩:=h.inv.map id hid;rw[hm]at h1;cases h1;have hl:=h3.1.length;refine ok_val h hd (v:=.int .i64 es.length) (by simp only[Rv]) (run_builtin hop hc (λcs=>rfl) ?_);have hg:(getObj (G.μ id)).run P w=.ok (.map ents clk) w:=by simp[getObj,Sem.run,h2]
   simp only[Builtin.len_,ht,ha,List.map_toArray,List.map_cons,List.map_nil,List.getElem?_toArray,List.getElem?_cons_zero,Sem.run_bind,run_underlying hu,Result.andThen_ok,rx,hg];simp only[Array.length_toList]at hl;simp only[Sem.run_pure,goInt,hl]
  ·cases hs
 ·cases hs
theorem foldM_sound {f:AV->AV->Option AV}{g:Value->Value->Sem Value}(hfg:∀{x y z:AV} {u v:Value},f x y=some z->Rv S G w x u->Rv S G w y v->∃r,Rv S G w z r/\(g u v).run P w=.ok r w) :
  ∀{xs:List AV} {us:List Value} {x z:AV} {u:Value},Rl S G w xs us->Rv S G w x u->foldV f x xs=some z->∃r,Rv S G w z r/\(us.foldlM g u).run P w=.ok r w
 | [],_,x,z,u,hl,hx,h=>by
  simp only[Rl]at hl;subst hl;simp only[foldV,oI]at h;subst h;exact⟨u,hx,rfl⟩
 | y::ys,_,x,z,u,hl,hx,h=>by
  simp only[Rl]at hl;obtain⟨v,r,rfl,hv,hr⟩:=hl;simp only[foldV]at h;cases hf:f x y with
  | none=>rw[hf]at h;cases h
  | some q =>
   rw[hf]at h;obtain⟨r1,h1,h2⟩:=hfg hf hx hv;obtain⟨r2,h3,h4⟩:=foldM_sound hfg hr h1 h;exact⟨r2,h3,by simp only[List.foldlM_cons,Sem.run_bind,h2,Result.andThen_ok,h4]⟩
theorem so_mx (h:Good P gt O S G w env a)(hd:∀d,o.dst=some d->O.N.ok d){c:Call}{ts:List TypeId}{dxs:List DOpd}(hop:o.op=.call c)(hc:c.callee=.builtin .max)(hx:opdsP P ts c.args.toList=some dxs)
  (hs:stepO gt o.dst env S (.mx dxs)=.done env' S'):OpOK P gt O o w a env' S':=by
 obtain⟨fb,hfr⟩:=h.fr;simp only[stepO]at hs;split at hs
 ·rename_i v vs hv;refine ok_val' h hd hs λz hz=>?_;have hr:=opds_sound hfr hx hv;have hr':=hr;simp only[Rl]at hr';obtain⟨u,us,hu,h1,h2⟩:=hr';obtain⟨r,h3,h4⟩:=foldM_sound (P:=P) (f:=mxV) (g:=Builtin.max2) (λ{x y z u v} hf hx hy=>by
   unfold mxV at hf;split at hf
   ·cases hf;simp only[Rv]at hx hy;subst hx;subst hy;rename_i k p k' q;refine⟨.int k (if q > p then q else p),?_,by simp[Builtin.max2]⟩;simp only[Rv];by_cases e:q > p<;>simp[e]
   ·cases hf) h2 h1 hz
  refine⟨r,h3,run_builtin hop hc (λcs=>rfl) ?_⟩;simp only[Builtin.max_,Array.toList_map,hu];exact h4
 ·cases hs
theorem so_mn (h:Good P gt O S G w env a)(hd:∀d,o.dst=some d->O.N.ok d){c:Call}{ts:List TypeId}{dxs:List DOpd}(hop:o.op=.call c)(hc:c.callee=.builtin .min)(hx:opdsP P ts c.args.toList=some dxs)
  (hs:stepO gt o.dst env S (.mn dxs)=.done env' S'):OpOK P gt O o w a env' S':=by
 obtain⟨fb,hfr⟩:=h.fr;simp only[stepO]at hs;split at hs
 ·rename_i v vs hv;refine ok_val' h hd hs λz hz=>?_;have hr:=opds_sound hfr hx hv;have hr':=hr;simp only[Rl]at hr';obtain⟨u,us,hu,h1,h2⟩:=hr';obtain⟨r,h3,h4⟩:=foldM_sound (P:=P) (f:=mnV) (g:=Builtin.min2) (λ{x y z u v} hf hx hy=>by
   unfold mnV at hf;split at hf
   ·cases hf;simp only[Rv]at hx hy;subst hx;subst hy;rename_i k p k' q;refine⟨.int k (if q<p then q else p),?_,by simp[Builtin.min2]⟩;simp only[Rv];by_cases e:q<p<;>simp[e]
   ·cases hf) h2 h1 hz
  refine⟨r,h3,run_builtin hop hc (λcs=>rfl) ?_⟩;simp only[Builtin.min_,Array.toList_map,hu];exact h4
 ·cases hs
theorem elemC_sound {e:TypeId}{z:AV}(h:elemC P e=some z):∃zv,(∀w,(zeroValue e).run P w=.ok zv w)/\∀S G w,Rv S G w z zv:=by
 unfold elemC at h;split at h
 ·rename_i i hi;split at h
  ·rename_i zv hz;exact⟨zv,λw=>by simp[zeroValue,typeInfo,hi,hz],λS G w=>constC_sound h⟩
  ·cases h
 ·cases h
theorem Rat.sub {b es:Nat}:∀{xs:List AV} {off:Nat},Rat S G w b es xs off->∀(l k:Nat),Rat S G w b es ((xs.drop l).take k) (off+l*es)
 | [],_,_,l,k=>by simp[Rat]
 | x::xs,off,h,0,k=>by
  simp only[List.drop_zero,Nat.zero_mul,Nat.add_zero];cases k with
  | zero=>simp[Rat]
  | succ k =>
   simp only[Rat]at h;simp only[List.take_succ_cons,Rat];have:=Rat.sub h.2 0 k;simp only[List.drop_zero,Nat.zero_mul,Nat.add_zero]at this;exact⟨h.1,this⟩
 | x::xs,off,h,l+1,k=>by
  simp only[Rat]at h;have:=Rat.sub h.2 l k;simp only[List.drop_succ_cons];rw[show off+(l+1)*es=off+es+l*es by rw[Nat.add_mul];omega];exact this
theorem so_tas (h:Good P gt O S G w env a)(hd:∀d,o.dst=some d->O.N.ok d){t xt:TypeId}{td:TypeDesc}{ok:Bool}{z:AV}{x:Operand}{dx:DOpd}{tx:TypeId}(hop:o.op=.typeAssert x xt t ok)(hu:P.underlying t=some td)(hni:∀ms,td≠.interface ms)(hz:elemC P t=some z)(hx:opdP P tx x=some dx)
  (hs:stepO gt o.dst env S (.tas ok t z dx)=.done env' S'):OpOK P gt O o w a env' S':=by
 obtain⟨fb,hfr⟩:=h.fr;obtain⟨zv,z1,z2⟩:=elemC_sound hz;have hF:∀{v:Value},(Instr.typeAssert (a.eval x) xt t ok).run P w=.ok v w->(execOp a.eval o).run P w=.ok (.value v) w:=λhv=>by simp[execOp,hop,hv]
 have tup:∀{p:AV} {u:Value} {b:Bool},Rv S G w p u->Rv S G w (.tup [p,.bool b]) (.tuple #[u,.bool b]):=λhp=>by
  simp only[Rv];exact⟨_,rfl,Rl.cons hp (Rl.cons (by simp only[Rv]) Rl.nil)⟩
 have red:∀{u:Value},(∀ms,td≠.interface ms)->(Instr.typeAssert u xt t ok).run P w=(match u with
   |.nilIface=>(if ok then .ok (.tuple #[zv,.bool false]) w else (Instr.typeAssert u xt t ok).run P w:Result Value)
   |.iface t' v=>if t'=t then .ok (if ok then .tuple #[v,.bool true] else v) w else if ok then .ok (.tuple #[zv,.bool false]) w else (Instr.typeAssert u xt t ok).run P w
   | _=>(Instr.typeAssert u xt t ok).run P w):=λ{u} _=>by
  cases ok<;>cases u<;>first
   | rfl
   | (cases td<;>first | exact absurd rfl (hni _) | (simp[Instr.typeAssert,run_underlying hu,z1];done) | (simp only[Instr.typeAssert,Sem.run_bind,run_underlying hu,Result.andThen_ok];split<;>simp_all))
 simp only[stepO]at hs;split at hs
 ·rename_i hxa;have rx:=opd_sound hx hxa hfr;simp only[Rv]at rx;cases ok with
  | false=>cases hs
  | true =>
   simp only[cond_true,SR.done.injEq]at hs;obtain⟨rfl,rfl⟩:=hs;exact ok_val h hd (tup (z2 S G w)) (hF (by rw[red hni,rx];rfl))
 ·rename_i u v hxa;have rx:=opd_sound hx hxa hfr;simp only[Rv]at rx;obtain⟨q,rx,rv⟩:=rx;cases hb:Nat.beq u t with
  | true =>
   rw[hb]at hs;have hb:=bE hb;subst hb;simp only[cond_true,SR.done.injEq]at hs;obtain⟨rfl,rfl⟩:=hs;cases ok with
   | false=>exact ok_val h hd rv (hF (by rw[red hni,rx];simp))
   | true=>exact ok_val h hd (tup rv) (hF (by rw[red hni,rx];simp))
  | false =>
   rw[hb]at hs;have hne:u≠t:=λe=>by subst e;simp at hb
   cases ok with
   | false=>cases hs
   | true =>
    simp only[cond_true,cond_false,SR.done.injEq]at hs;obtain⟨rfl,rfl⟩:=hs;exact ok_val h hd (tup (z2 S G w)) (hF (by rw[red hni,rx];simp[hne]))
 ·cases hs
def Bnd (a:Act)(n:Nat)(lo hi:Option Operand)(l h:Nat):Prop :=
 (match lo with | none=>l=0 | some x=>∃k,a.eval x=.int k l)/\(match hi with | none=>h=n | some x=>∃k,a.eval x=.int k h)/\l<=h/\h<=n
theorem bnds_sound {fb:Nat->Nat}(hfr:FR O S G w env a fb){n l h:Nat}{lo hi:Option Operand}{dlo dhi:Option DOpd}(hlo:opdO P 0 lo=some dlo)(hhi:opdO P 0 hi=some dhi)(hb:bnds env n dlo dhi=some (l,h)):Bnd a n lo hi l h:=by
 unfold bnds at hb;simp only at hb;have conv:∀{x:Operand} {d:DOpd} {i:Nat},opdP P 0 x=some d->(opd env d).bind nat? = some i->∃k,a.eval x=.int k i:=λhp hn=>by
  obtain⟨v,h1,h2⟩:=bind_nat hn;exact nat?_sound h2 (opd_sound hp h1 hfr)
 have e1:∀{x:Option Operand} {d:Option DOpd} {df i:Nat},opdO P 0 x=some d->(match d with | none=>some df | some x=>(opd env x).bind nat?)=some i->(match x with | none=>i=df | some x=>∃k,a.eval x=.int k i):=λ{x d df i} hp hn=>by
  cases x with
  | none=>simp only[opdO,oI]at hp;subst hp;simp only[oI]at hn;exact hn.symm
  | some x =>
   simp only[opdO]at hp;obtain⟨d',h1,rfl⟩:=Option.map_eq_some_iff.1 hp;exact conv h1 hn
 split at hb
 ·rename_i l' h' hl hh;cases hc:(Nat.ble l' h' && Nat.ble h' n) with
  | false=>rw[hc]at hb;cases hb
  | true =>
   rw[hc]at hb;cases hb;simp only[bA]at hc;exact⟨e1 hlo hl,e1 hhi hh,bL hc.1,bL hc.2⟩
 ·cases hb
theorem run_sliceBound {v:Value}{k:IntKind}{i y:Nat}{c:BoundsCode}(hv:v=.int k i)(h:i<=y):(Instr.sliceBound v y c).run P w=.ok i w:=by
 subst hv;simp only[Instr.sliceBound,asIntOf,Sem.run_bind,Sem.run_pure,Result.andThen_ok];rw[if_pos ⟨by omega,by omega⟩];simp
theorem run_sliceBounds {isS:Bool}{len cap l h:Nat}{lo hi:Option Operand}(hb:Bnd a len lo hi l h)(hc:len<=cap):(Instr.sliceBounds isS len cap (lo.map a.eval) (hi.map a.eval) none).run P w=.ok (l,h,cap) w:=by
 obtain⟨h1,h2,h3,h4⟩:=hb;unfold Instr.sliceBounds;cases lo with
 | none =>
  simp only at h1;subst h1;cases hi with
  | none=>simp only at h2;subst h2;simp
  | some x=>obtain⟨k,hk⟩:=h2;simp[run_sliceBound hk (show h<=cap by omega)]
 | some z =>
  obtain⟨kz,hz⟩:=h1;cases hi with
  | none=>simp only at h2;subst h2;simp[run_sliceBound hz h3]
  | some x=>obtain⟨k,hk⟩:=h2;simp[run_sliceBound hk (show h<=cap by omega),run_sliceBound hz h3]
theorem so_slS (h:Good P gt O S G w env a)(hd:∀d,o.dst=some d->O.N.ok d){t:TypeId}{x:Operand}{lo hi:Option Operand}{dx:DOpd}{dlo dhi:Option DOpd}(hop:o.op=.slice t x lo hi none)(hu:P.underlying t=some .string)(hx:opdP P t x=some dx)(hlo:opdO P 0 lo=some dlo)(hhi:opdO P 0 hi=some dhi)
  (hs:stepO gt o.dst env S (.slS dx dlo dhi)=.done env' S'):OpOK P gt O o w a env' S':=by
 obtain⟨fb,hfr⟩:=h.fr;simp only[stepO]at hs;split at hs
 ·rename_i s hxa;split at hs
  ·rename_i l h' hb;simp only[SR.done.injEq]at hs;obtain⟨rfl,rfl⟩:=hs;have rx:=opd_sound hx hxa hfr;simp only[Rv]at rx;have hbd:=bnds_sound hfr hlo hhi hb;have hsz:(⟨⟨s⟩⟩:ByteArray).size=s.length:=rfl;have hbr:=run_sliceBounds (P:=P) (w:=w) (isS:=false) hbd (nR _);have he:(⟨⟨s⟩⟩:ByteArray).extract l h'=⟨⟨(s.drop l).take (h'-l)⟩⟩:=by
    apply ByteArray.ext
    simp[ByteArray.data_extract,List.extract_toArray,List.extract_eq_take_drop]
   refine ok_val h hd (v:=.string ⟨⟨(s.drop l).take (h'-l)⟩⟩) (by simp only[Rv]) ?_;simp only[execOp,hop,Instr.sliceAt,Instr.slice,Sem.run_bind,run_underlying hu,Result.andThen_ok,rx,Option.map_none,Option.isSome_none,Bool.false_eq_true,if_false,hsz,hbr,he,Sem.run_pure]
  ·cases hs
 ·cases hs
theorem so_slA (h:Good P gt O S G w env a)(hd:∀d,o.dst=some d->O.N.ok d){t e:TypeId}{s:Nat}{x:Operand}{lo hi mx:Option Operand}{dx:DOpd}{dlo dhi dmx:Option DOpd}(hop:o.op=.slice t x lo hi mx)(hu:P.underlying t=some (.slice e))(hsz:sizeP P e=some s)(hx:opdP P t x=some dx)(hlo:opdO P 0 lo=some dlo)(hhi:opdO P 0 hi=some dhi)(hmx:opdO P 0 mx=some dmx)
  (hmh:mx.isSome=true->hi.isSome=true)
  (hs:stepO gt o.dst env S (.slA s dx dlo dhi dmx)=.done env' S'):OpOK P gt O o w a env' S':=by
 obtain⟨fb,hfr⟩:=h.fr;simp only[stepO]at hs;split at hs
 ·rename_i es so xs hxa;cases hbe:Nat.beq s es with
  | false=>rw[hbe]at hs;cases hs
  | true =>
  rw[hbe]at hs;simp only[cond_true]at hs;have hbe:=bE hbe;subst hbe;split at hs
  ·rename_i l h' hb;have rx:=opd_sound hx hxa hfr;simp only[Rv]at rx;obtain⟨ad,len,cap,hv,hsl,hrat⟩:=rx;have hlen:=hsl.1;subst hlen;have hbd:=bnds_sound hfr hlo hhi hb;have hle:=hsl.2.1;have h34:=hbd.2.2;have res:∀(m:Nat) (cp:Option Nat),h'<=m->m<=cap->(∀c,cp=some c->m-l=c) ->
     Rv S G w (.sl s { so with off:=so.off+l,cap:=cp } ((xs.drop l).take (h'-l))) (.slice (if m=l then ad else ad.map (·.add (l*s))) (h'-l) (m-l)):=by
    intro m cp hm1 hm2 hm3;simp only[Rv];have hln:((xs.drop l).take (h'-l)).length=h'-l:=by simp;omega
    have hrd:rd S { so with off:=so.off+l,cap:=cp }=rd S so:=rfl;refine⟨_,_,_,rfl,⟨hln.symm,by omega,?_,λc hc=>hm3 c hc,?_,?_⟩,?_⟩
    ·have:=hsl.2.2.1;split
     ·exact this
     ·cases ad with
      | none=>simpa using this
      | some p=>simpa using this
    ·intro hn;have:ad=none:=by
      split at hn
      ·exact hn
      ·cases ad with
       | none=>rfl
       | some p=>simp at hn
     have:=hsl.2.2.2.2.1 this;omega
    ·intro p hp hc;rw[if_neg (by omega)]at hp;cases ad with
     | none=>simp at hp
     | some q =>
      simp only[Option.map_some,oI]at hp;subst hp;obtain⟨g1,g2,⟨ty,k,g3,g4⟩,g5⟩:=hsl.2.2.2.2.2 q rfl (by omega);rw[add_eta g2];have hmul:l*s+(m-l)*s<=cap*s:=by rw[<-Nat.add_mul];exact Nat.mul_le_mul_right _ (by omega)
      refine⟨g1,rfl,⟨ty,k,g3,by simp only;omega⟩,?_⟩;rw[hrd];cases hr:rd S so with
      | here =>
       rw[hr]at g5;simp only at g5 ⊢;cases ht:so.tok with
       | none=>rw[ht]at g5;exact g5
       | some tl =>
        rw[ht]at g5;obtain⟨e1,e2,e3,e4,e5⟩:=g5;have hmul2:l*s+(h'-l)*s<=xs.length*s:=by rw[<-Nat.add_mul];exact Nat.mul_le_mul_right _ (by omega)
        exact⟨e1,e2,e3,by show q.off+l*s=(so.off+l)*s;rw[e4,Nat.add_mul],by show q.off+l*s+(h'-l)*s<=G.sz q.block;omega⟩
      | box b boff =>
       rw[hr]at g5;simp only at g5 ⊢;obtain⟨e1,e2,e3,e4⟩:=g5;exact⟨e1,e2,by show q.off+l*s=boff+(so.off+l)*s;rw[e3,Nat.add_mul];omega,e4⟩
      | no=>rw[hr]at g5;exact g5
    ·intro hrd' p hp;rw[hrd]at hrd';by_cases e0:h'-l=0
     ·rw[e0];simp only[List.take_zero,Rat]
     rw[if_neg (by omega)]at hp;cases ad with
     | none=>simp at hp
     | some q =>
      simp only[Option.map_some,oI]at hp;subst hp;have g2:=(hsl.2.2.2.2.2 q rfl (by omega)).2.1;rw[add_eta g2];exact Rat.sub (hrat hrd' q rfl) l (h'-l)
   cases dmx with
   | none =>
    simp only[SR.done.injEq]at hs;obtain⟨rfl,rfl⟩:=hs;have hm0:mx=none:=by
     cases mx with
     | none=>rfl
     | some m=>simp only[opdO]at hmx;obtain⟨d',_,h2⟩:=Option.map_eq_some_iff.1 hmx;cases h2
    subst hm0;refine ok_val h hd (res cap (so.cap.map (· - l)) (by omega) (nR _) (λc hc=>?_)) ?_
    ·obtain⟨c0,hc0,rfl⟩:=Option.map_eq_some_iff.1 hc;rw[hsl.2.2.2.1 c0 hc0]
    ·have hbr:=run_sliceBounds (P:=P) (w:=w) (isS:=true) hbd hle;simp only[execOp,hop,Instr.sliceAt,Instr.slice,Sem.run_bind,run_underlying hu,Result.andThen_ok,hv,Option.map_none,hbr,run_sizeP hsz,Sem.run_pure]
   | some dm =>
    simp only at hs;split at hs
    ·rename_i m hm;cases hbm:(Nat.ble h' m && Nat.ble m xs.length) with
     | false=>rw[hbm]at hs;cases hs
     | true =>
      rw[hbm]at hs;simp only[cond_true,SR.done.injEq]at hs;obtain⟨rfl,rfl⟩:=hs;simp only[bA]at hbm;have m1:=bL hbm.1;have m2:=bL hbm.2;cases mx with
      | none=>simp[opdO]at hmx
      | some xm =>
      simp only[opdO]at hmx;obtain⟨d',hxm,e2⟩:=Option.map_eq_some_iff.1 hmx;cases e2;obtain⟨vm,hvm1,hvm2⟩:=bind_nat hm;obtain⟨km,hkm⟩:=nat?_sound hvm2 (opd_sound hxm hvm1 hfr);cases hi with
      | none=>have:=hmh rfl;cases this
      | some xh =>
      obtain⟨b1,⟨kh,hkh⟩,b3,b4⟩:=hbd;refine ok_val h hd (res m (some (m-l)) m1 (by omega) (λc hc=>by cases hc;rfl)) ?_;simp only[execOp,hop,Instr.sliceAt,Instr.slice,Sem.run_bind,run_underlying hu,Result.andThen_ok,hv,Option.map_some,Instr.sliceBounds,run_sliceBound hkm (show m<=cap by omega),run_sliceBound hkh m1,run_sizeP hsz,Sem.run_pure];cases lo with
      | none =>
       simp only at b1;subst b1;simp only[Option.map_none,Sem.run_bind,Sem.run_pure,Result.andThen_ok]
      | some xl =>
       obtain⟨kl,hkl⟩:=b1;simp only[Option.map_some,Sem.run_bind,run_sliceBound hkl b3,Sem.run_pure,Result.andThen_ok]
    ·cases hs
  ·cases hs
 ·cases hs
theorem so_slP (h:Good P gt O S G w env a)(hd:∀d,o.dst=some d->O.N.ok d){t e:TypeId}{n s:Nat}{x:Operand}{lo hi:Option Operand}{dx:DOpd}{dlo dhi:Option DOpd}(hop:o.op=.slice t x lo hi none)(hu:P.underlying t=some (.array n e))(hsz:sizeP P e=some s)(hx:opdP P t x=some dx)(hlo:opdO P 0 lo=some dlo)(hhi:opdO P 0 hi=some dhi)
  (hs:stepO gt o.dst env S (.slP s n dx dlo dhi)=.done env' S'):OpOK P gt O o w a env' S':=by
 obtain⟨fb,hfr⟩:=h.fr;simp only[stepO]at hs;split at hs
 ·rename_i id off hl;split at hs
  ·rename_i ty cs l h' hbx hb;cases hbb:(Nat.ble (off+n*s) cs.length && Nat.blt 0 s) with
   | false=>rw[hbb]at hs;cases hs
   | true =>
   rw[hbb]at hs;simp only[cond_true,SR.done.injEq]at hs;obtain⟨rfl,rfl⟩:=hs;simp only[bA]at hbb;have b1:=bL hbb.1;have b2:=blt_lt hbb.2;obtain⟨p,hp,hid,rfl⟩:=loc_sound hx hl hfr;have hbd:=bnds_sound hfr hlo hhi hb;obtain⟨_,c,fr,sf,pre,rest,hw,_,hc,hrl⟩:=h.inv.box id ty cs hbx;have hcl:cs.length<=c.size:=by
    have:=hrl.length;rw[<-Array.length_toList,hc,lA];omega
   have t2:=Tr.newMoved (id:=id) h.inv off hid;have h34:=hbd.2.2;have hrun:(execOp a.eval o).run P w=.ok (.value (.slice (some (if n=l then (⟨G.β id,off,none⟩:Addr) else (⟨G.β id,off,none⟩:Addr).add (l*s))) (h'-l) (n-l))) w:=by
    have hbr:=run_sliceBounds (P:=P) (w:=w) (isS:=false) hbd (nR n);simp only[execOp,hop,Instr.sliceAt,Sem.run_bind,run_underlying hu,Result.andThen_ok,hp,Instr.sureAddr,Option.map_none,hbr,run_sizeP hsz,Sem.run_pure]
   refine⟨_,_,.inl ⟨_,hrun,(h.step t2).putV hd ?_⟩⟩;simp only[Rv];have hrd:rd { S with nt:=S.nt+1,tip:=(S.nt,none)::S.tip,mv:=(S.nt,.bx id off)::S.mv } ⟨some (S.nt,S.nt),l,some (n-l),false⟩=.box id off:=by
    unfold rd;simp only[lk_same]
   refine⟨_,_,_,rfl,⟨by simp,by omega,by simp,λc hc=>(by simpa using hc),λhc=>(by cases hc),λp hp hc=>?_⟩,λhr=>?_⟩
   ·rw[if_neg (by omega)]at hp;cases hp;have hmul:l*s+(n-l)*s=n*s:=by rw[<-Nat.add_mul];congr 1;omega
    rw[add_none];refine⟨b2,rfl,⟨ty,c.size,?_,?_⟩,?_⟩
    ·simp only[World.shape?,hw]
    ·simp only;omega
    ·rw[hrd];exact⟨hid,rfl,rfl,λt l hh=>by simp only[oI,Prod.mk.injEq]at hh;obtain⟨rfl,rfl⟩:=hh;exact⟨Nat.lt_succ_self _,upd_same _ _ _⟩⟩
   ·rw[hrd]at hr;cases hr
  ·cases hs
 ·cases hs
end
end Go.Dn
