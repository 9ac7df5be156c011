/- The step once more, so that the kernel goes to its row at once. -/
import Derived.Test.YthgidapmofcloaaGreatDoorWb
set_option linter.unusedSimpArgs false
set_option linter.unusedVariables false
namespace Go.Dn.F
open Go Go.Dn
noncomputable def lk {α:Type} (l:List (Nat×α)) (n:Nat):Option α :=
  List.rec (motive:=fun _=>Option α) none (fun p _ ih=>bif Nat.beq p.1 n then some p.2 else ih) l
theorem lk_eq:@lk = @Dn.lk:=by
  funext α l n
  induction l with
  | nil=>rfl
  | cons p l ih =>
    obtain⟨k,v⟩:=p
    show (bif Nat.beq k n then some v else lk l n)=_
    rw [ih];rfl
noncomputable def opd (env:Env):DOpd→Option AV
  |.t n=>match lk env n with
    | some (.val v)=>some v
    | _=>none
  |.c v=>some v
  |.g n=>some (.gptr n 0)
  |.f n=>some (.fn n [] [])
theorem opd_eq:opd=Dn.opd:=by
  funext env x
  unfold opd Dn.opd
  simp only [lk_eq]
  try rfl
noncomputable def opds (env:Env):List DOpd→Option (List AV)
  | []=>some []
  | x::xs=>match opd env x,opds env xs with
    | some v,some vs=>some (v::vs)
    | _,_=>none
theorem opds_eq:opds=Dn.opds:=by
  funext env xs
  induction xs with
  | nil=>rfl
  | cons a l ih=>simp only [opds,Dn.opds,ih,lk_eq,opd_eq];try rfl
noncomputable def loc (env:Env):DOpd→Option Loc
  |.t n=>match lk env n with
    | some (.box _)=>some (.lc n 0)
    | some (.adr t off)=>some (.lc t off)
    | some (.val v)=>locV v
    | _=>none
  |.g n=>some (.gl n 0)
  | _=>none
theorem loc_eq:loc=Dn.loc:=by
  funext env x
  unfold loc Dn.loc
  simp only [lk_eq,opd_eq,opds_eq]
  try rfl
noncomputable def rd (S:St) (o:SI):Rd :=
  match o.tok with
  | none=>.here
  | some (t,l)=>match lk S.mv t with
    | some (.bx b boff)=>.box b boff
    | none=>match lk S.dl l with
      | none=>.here
      | some _=>.no
theorem rd_eq:rd=Dn.rd:=by
  funext S o
  unfold rd Dn.rd
  simp only [lk_eq,opd_eq,opds_eq,loc_eq]
  try rfl
noncomputable def elCells (S:St) (es:Nat) (o:SI) (xs:List AV) (i:Nat):Option (List AV) :=
  match rd S o with
  |.here=>(xs[i]?).map AV.cells
  |.box b boff=>match lk S.boxes b with
    | some (some (_,cs))=>cut cs (boff+(o.off+i)*es) es
    | _=>none
  |.no=>none
theorem elCells_eq:elCells=Dn.elCells:=by
  funext S es o xs i
  unfold elCells Dn.elCells
  simp only [lk_eq,opd_eq,opds_eq,loc_eq,rd_eq]
  try rfl
noncomputable def elems (S:St) (agg:Bool) (es:Nat) (o:SI) (xs:List AV):Option (List AV) :=
  match rd S o with
  |.here=>some xs
  |.box b boff=>match lk S.boxes b with
    | some (some (_,cs))=>cutAll agg es cs (boff+o.off*es) xs.length
    | _=>none
  |.no=>none
theorem elems_eq:elems=Dn.elems:=by
  funext S agg es o xs
  unfold elems Dn.elems
  simp only [lk_eq,opd_eq,opds_eq,loc_eq,rd_eq,elCells_eq]
  try rfl
noncomputable def ldC (gt:GT) (env:Env) (S:St) (sz:Nat):Loc→Option (List AV)
  |.lc t off=>match lk env t with
    | some (.box cs)=>cut cs off sz
    | _=>none
  |.hp id off=>match lk S.boxes id with
    | some (some (_,cs))=>cut cs off sz
    | _=>none
  |.gl g off=>match lk gt g with
    | some cs=>cut cs off sz
    | none=>none
  |.el es o xs i off=>match elCells S es o xs i with
    | some cs=>cut cs off sz
    | none=>none
theorem ldC_eq:ldC=Dn.ldC:=by
  funext gt env S sz l
  unfold ldC Dn.ldC
  simp only [lk_eq,opd_eq,opds_eq,loc_eq,rd_eq,elCells_eq,elems_eq]
  try rfl
noncomputable def ldL (gt:GT) (env:Env) (S:St) (agg:Bool) (sz:Nat) (l:Loc):Option AV :=
  match ldC gt env S sz l with
  | some cs=>mkv agg cs
  | none=>none
theorem ldL_eq:ldL=Dn.ldL:=by
  funext gt env S agg sz l
  unfold ldL Dn.ldL
  simp only [lk_eq,opd_eq,opds_eq,loc_eq,rd_eq,elCells_eq,elems_eq,ldC_eq]
  try rfl
noncomputable def stL (env:Env) (S:St) (new:List AV):Loc→Option (Env×St)
  |.lc t off=>match lk env t with
    | some (.box cs)=>bif Nat.ble (off+new.length) cs.length then some ((t,.box (splice cs off new))::env,S) else none
    | _=>none
  |.hp id off=>match lk S.boxes id with
    | some (some (ty,cs))=>bif Nat.ble (off+new.length) cs.length then some (env,{ S with boxes:=(id,some (ty,splice cs off new))::S.boxes }) else none
    | _=>none
  |.gl _ _=>none
  |.el es o xs i off=>match rd S o with
    |.box b boff=>match lk S.boxes b with
      | some (some (ty,cs))=>bif Nat.ble (off+new.length) es && (Nat.blt i xs.length && Nat.ble (boff+(o.off+i)*es+off+new.length) cs.length) then
          some (env,{ S with boxes:=(b,some (ty,splice cs (boff+(o.off+i)*es+off) new))::S.boxes }) else none
      | _=>none
    |.here=>match o.tok with
      | some (t,l)=>match lk S.tip t with
        | some (some (n,ty,_))=>bif Nat.beq o.off 0 && (Nat.beq xs.length n && (Nat.blt i n && Nat.ble (off+new.length) es)) then
            some (env,{ S with nb:=S.nb+1,boxes:=(S.nb,some (ty,splice (xs.flatMap AV.cells) (i*es+off) new))::(S.nb,some (ty,xs.flatMap AV.cells))::S.boxes,
                                mv:=(t,.bx S.nb 0)::S.mv,dl:=(l,())::S.dl,tip:=(t,none)::S.tip }) else none
        | _=>none
      | none=>none
    |.no=>none
theorem stL_eq:stL=Dn.stL:=by
  funext env S new l
  cases l<;>(simp only [stL,Dn.stL,lk_eq,opd_eq,opds_eq,loc_eq,rd_eq,elCells_eq,elems_eq,ldC_eq,ldL_eq];try rfl)
noncomputable def bnds (env:Env) (n:Nat) (lo hi:Option DOpd):Option (Nat×Nat) :=
  let h:=match hi with
    | none=>some n
    | some x=>(opd env x).bind nat?
  let l:=match lo with
    | none=>some 0
    | some x=>(opd env x).bind nat?
  match l,h with
  | some l,some h=>bif Nat.ble l h && Nat.ble h n then some (l,h) else none
  | _,_=>none
theorem bnds_eq:bnds=Dn.bnds:=by
  funext env n lo hi
  unfold bnds Dn.bnds
  simp only [lk_eq,opd_eq,opds_eq,loc_eq,rd_eq,elCells_eq,elems_eq,ldC_eq,ldL_eq,stL_eq]
  try rfl
noncomputable def fillC (cs:List AV) (env:Env):List (Nat×Nat×DOpd)→Option (List AV)
  | []=>some cs
  | (off,sz,x)::r=>match opd env x with
    | some v=>bif Nat.beq v.cells.length sz && Nat.ble (off+sz) cs.length then fillC (splice cs off v.cells) env r else none
    | none=>none
theorem fillC_eq:fillC=Dn.fillC:=by
  funext cs env ps
  induction ps generalizing cs with
  | nil=>rfl
  | cons a l ih=>simp only [fillC,Dn.fillC,ih,lk_eq,opd_eq,opds_eq,loc_eq,rd_eq,elCells_eq,elems_eq,ldC_eq,ldL_eq,stL_eq,bnds_eq];try rfl
noncomputable def fillE (es:Nat) (xs:List AV) (env:Env):List (Nat×DOpd)→Option (List AV)
  | []=>some xs
  | (i,x)::r=>match opd env x with
    | some v=>bif Nat.beq v.cells.length es && Nat.blt i xs.length then fillE es (xs.set i v) env r else none
    | none=>none
theorem fillE_eq:fillE=Dn.fillE:=by
  funext es xs env ps
  induction ps generalizing xs with
  | nil=>rfl
  | cons a l ih=>simp only [fillE,Dn.fillE,ih,lk_eq,opd_eq,opds_eq,loc_eq,rd_eq,elCells_eq,elems_eq,ldC_eq,ldL_eq,stL_eq,bnds_eq,fillC_eq];try rfl
noncomputable def srcE (S:St) (agg:Bool) (es:Nat):AV→Option (List AV)
  |.sl es' o ys=>bif Nat.beq es' es then elems S agg es o ys else none
  |.str s=>bif Nat.beq es 1 then some (ofBytes s) else none
  | _=>none
theorem srcE_eq:srcE=Dn.srcE:=by
  funext S agg es x
  unfold srcE Dn.srcE
  simp only [lk_eq,opd_eq,opds_eq,loc_eq,rd_eq,elCells_eq,elems_eq,ldC_eq,ldL_eq,stL_eq,bnds_eq,fillC_eq,fillE_eq]
  try rfl
noncomputable def appV (S:St) (agg:Bool) (ty:TypeId) (es bytes:Nat) (x y:AV):Option (AV×St) :=
  match x with
  |.sl es' o xs =>
    match srcE S agg es y,elems S agg es o xs with
    | some [],some _=>some (x,S)
    | some (y::ys),some xs' =>
      bif Nat.beq es' es && (Nat.ble ((xs.length+(y::ys).length)*bytes) 140737488355328 && (Nat.ble (xs.length+(y::ys).length) 140737488355328 && (Nat.ble bytes 1048576 && Nat.blt 0 es))) then
        match o.cap with
        | some c=>bif Nat.ble (xs.length+(y::ys).length) c then (match rd S o with
            |.box b boff=>match lk S.boxes b with
              | some (some (ty',cs))=>bif ((y::ys).flatMap AV.cells).all ok1 && Nat.ble (boff+(o.off+xs.length)*es+((y::ys).flatMap AV.cells).length) cs.length then
                  some (.sl es o (xs'++y::ys),{ S with boxes:=(b,some (ty',splice cs (boff+(o.off+xs.length)*es) ((y::ys).flatMap AV.cells)))::S.boxes }) else none
              | _=>none
            | _=>none) else
            some (.sl es ⟨some (S.nt,S.nt),0,none,false⟩ (xs'++y::ys),{ S with nt:=S.nt+1,tip:=(S.nt,some (xs.length+(y::ys).length,ty,false))::S.tip })
        | none=>match o.tok,rd S o with
          | some (t,l),.here=>match lk S.tip t with
            | some (some (m,ty',sf))=>bif Nat.beq ty' ty && (Nat.beq m xs.length && (Nat.beq o.off 0 && (Nat.ble l S.nt && ((y::ys).flatMap AV.cells).all ok1))) then
                some (.sl es ⟨some (S.nt,l),0,none,false⟩ (xs'++y::ys),{ S with nt:=S.nt+1,tip:=(S.nt,some (xs.length+(y::ys).length,ty,sf))::(t,none)::S.tip }) else none
            | _=>none
          | _,_=>none
      else none
    | _,_=>none
  | _=>none
theorem appV_eq:appV=Dn.appV:=by
  funext S agg ty es bytes x y
  unfold appV Dn.appV
  simp only [lk_eq,opd_eq,opds_eq,loc_eq,rd_eq,elCells_eq,elems_eq,ldC_eq,ldL_eq,stL_eq,bnds_eq,fillC_eq,fillE_eq,srcE_eq]
  try rfl
noncomputable def conform (l:Option Nat) (env:Env):DOp→Bool
  |.ld _ _ (.t n) |.fa _ (.t n) |.nilc (.t n) |.iaA _ _ (.t n) _ |.st _ (.t n) _ |.slP _ _ (.t n) _ _=>match l,lk env n with
    | some t,some (.box _)=>Nat.beq t n
    | some t,some (.adr t' _)=>Nat.beq t t'
    | none,some (.val _)=>true
    | _,_=>false
  | _=>true
theorem conform_eq:conform=Dn.conform:=by
  funext l env op
  unfold conform Dn.conform
  simp only [lk_eq,opd_eq,opds_eq,loc_eq,rd_eq,elCells_eq,elems_eq,ldC_eq,ldL_eq,stL_eq,bnds_eq,fillC_eq,fillE_eq,srcE_eq,appV_eq]
  rfl
noncomputable def stepL (dst:Option Nat) (env:Env) (S:St):DOp→SR
  |.alL z=>match dst with
    | some d=>bif noAdr d env then .done ((d,.box z)::env) S else .fail
    | none=>.fail
  |.bxL x=>match dst,opd env x with
    | some d,some v=>bif noAdr d env then .done ((d,.box v.cells)::env) S else .fail
    | _,_=>.fail
  | _=>.fail
theorem stepL_eq:stepL=Dn.stepL:=by
  funext dst env S op
  cases op<;>first | rfl | (simp only [stepL,Dn.stepL,opd_eq];rfl)
noncomputable def keepE (env:Env):List Nat→Env
  | []=>[]
  | k::r=>match lk env k with
    | some (.val v)=>(k,.val v)::keepE env r
    | some (.box cs)=>(k,.box cs)::keepE env r
    | _=>keepE env r
theorem keepE_eq:keepE=Dn.keepE:=by
  funext env ks
  induction ks with
  | nil=>rfl
  | cons a l ih=>simp only [keepE,Dn.keepE,ih,lk_eq,opd_eq,opds_eq,loc_eq,rd_eq,elCells_eq,elems_eq,ldC_eq,ldL_eq,stL_eq,bnds_eq,fillC_eq,fillE_eq,srcE_eq,appV_eq,conform_eq,stepL_eq];try rfl
noncomputable def resV (gt:GT) (env:Env) (S:St):DR→Option AV
  |.tmp t=>match lk env t with
    | some (.val v)=>some v
    | _=>none
  |.cell t agg sz=>match loc env (.t t) with
    | some l=>ldL gt env S agg sz l
    | none=>none
theorem resV_eq:resV=Dn.resV:=by
  funext gt env S r
  unfold resV Dn.resV
  simp only [lk_eq,opd_eq,opds_eq,loc_eq,rd_eq,elCells_eq,elems_eq,ldC_eq,ldL_eq,stL_eq,bnds_eq,fillC_eq,fillE_eq,srcE_eq,appV_eq,conform_eq,stepL_eq,keepE_eq]
  try rfl
noncomputable def resVs (gt:GT) (env:Env) (S:St):List DR→Option (List AV)
  | []=>some []
  | r::rs=>match resV gt env S r,resVs gt env S rs with
    | some v,some vs=>some (v::vs)
    | _,_=>none
theorem resVs_eq:resVs=Dn.resVs:=by
  funext gt env S rs
  induction rs with
  | nil=>rfl
  | cons a l ih=>simp only [resVs,Dn.resVs,ih,lk_eq,opd_eq,opds_eq,loc_eq,rd_eq,elCells_eq,elems_eq,ldC_eq,ldL_eq,stL_eq,bnds_eq,fillC_eq,fillE_eq,srcE_eq,appV_eq,conform_eq,stepL_eq,keepE_eq,resV_eq];try rfl
noncomputable def result (gt:GT) (env:Env) (S:St) (rs:List DR):Option AV :=
  match resVs gt env S rs with
  | some [v]=>some v
  | some vs=>some (.tup vs)
  | none=>none
theorem result_eq:result=Dn.result:=by
  funext gt env S rs
  unfold result Dn.result
  simp only [lk_eq,opd_eq,opds_eq,loc_eq,rd_eq,elCells_eq,elems_eq,ldC_eq,ldL_eq,stL_eq,bnds_eq,fillC_eq,fillE_eq,srcE_eq,appV_eq,conform_eq,stepL_eq,keepE_eq,resV_eq,resVs_eq]
  try rfl
theorem xE:opd=Dn.opd∧opds=Dn.opds∧loc=Dn.loc∧rd=Dn.rd∧elCells=Dn.elCells∧elems=Dn.elems∧ldC=Dn.ldC∧ldL=Dn.ldL∧stL=Dn.stL∧bnds=Dn.bnds∧fillC=Dn.fillC∧fillE=Dn.fillE∧srcE=Dn.srcE∧appV=Dn.appV∧conform=Dn.conform∧stepL=Dn.stepL∧keepE=Dn.keepE∧resV=Dn.resV∧resVs=Dn.resVs∧result=Dn.result:=⟨opd_eq,opds_eq,loc_eq,rd_eq,elCells_eq,elems_eq,ldC_eq,ldL_eq,stL_eq,bnds_eq,fillC_eq,fillE_eq,srcE_eq,appV_eq,conform_eq,stepL_eq,keepE_eq,resV_eq,resVs_eq,result_eq⟩
noncomputable def fO_mv (x:DOpd) (_gt:GT) (dst:Option Nat) (env:Env) (S:St):SR:=.val dst env S (opd env x)
theorem fO_mv_eq (x:DOpd) (gt:GT) (dst:Option Nat) (env:Env) (S:St):fO_mv x gt dst env S=stepO gt dst env S (.mv x):=by
  unfold fO_mv
  try simp only [lk_eq,xE]
  try rfl
noncomputable def fO_pick (c:DOpd) (a:DOpd) (b:DOpd) (_gt:GT) (dst:Option Nat) (env:Env) (S:St):SR:=match opd env c with
    | some (.bool t)=>.val dst env S (bif t then opd env a else opd env b)
    | _=>.fail
theorem fO_pick_eq (c:DOpd) (a:DOpd) (b:DOpd) (gt:GT) (dst:Option Nat) (env:Env) (S:St):fO_pick c a b gt dst env S=stepO gt dst env S (.pick c a b):=by
  unfold fO_pick
  try simp only [lk_eq,xE]
  try rfl
noncomputable def fO_alL (z:List AV) (_gt:GT) (dst:Option Nat) (env:Env) (S:St):SR:=match dst with
    | some d=>.done ((d,.box z)::kill d env) S
    | none=>.fail
theorem fO_alL_eq (z:List AV) (gt:GT) (dst:Option Nat) (env:Env) (S:St):fO_alL z gt dst env S=stepO gt dst env S (.alL z):=by
  unfold fO_alL
  try simp only [lk_eq,xE]
  try rfl
noncomputable def fO_alH (ty:TypeId) (z:List AV) (_gt:GT) (dst:Option Nat) (env:Env) (S:St):SR:=.done (putV dst (.ptr S.nb 0) env) { S with nb:=S.nb+1,boxes:=(S.nb,some (ty,z))::S.boxes }
theorem fO_alH_eq (ty:TypeId) (z:List AV) (gt:GT) (dst:Option Nat) (env:Env) (S:St):fO_alH ty z gt dst env S=stepO gt dst env S (.alH ty z):=by
  unfold fO_alH
  try simp only [lk_eq,xE]
  try rfl
noncomputable def fO_bxL (x:DOpd) (_gt:GT) (dst:Option Nat) (env:Env) (S:St):SR:=match dst,opd env x with
    | some d,some v=>.done ((d,.box v.cells)::kill d env) S
    | _,_=>.fail
theorem fO_bxL_eq (x:DOpd) (gt:GT) (dst:Option Nat) (env:Env) (S:St):fO_bxL x gt dst env S=stepO gt dst env S (.bxL x):=by
  unfold fO_bxL
  try simp only [lk_eq,xE]
  try rfl
noncomputable def fO_bxH (ty:TypeId) (x:DOpd) (_gt:GT) (dst:Option Nat) (env:Env) (S:St):SR:=match opd env x with
    | some v=>.done (putV dst (.ptr S.nb 0) env) { S with nb:=S.nb+1,boxes:=(S.nb,some (ty,v.cells))::S.boxes }
    | none=>.fail
theorem fO_bxH_eq (ty:TypeId) (x:DOpd) (gt:GT) (dst:Option Nat) (env:Env) (S:St):fO_bxH ty x gt dst env S=stepO gt dst env S (.bxH ty x):=by
  unfold fO_bxH
  try simp only [lk_eq,xE]
  try rfl
noncomputable def fO_bld (z:List AV) (ps:List (Nat×Nat×DOpd)) (_gt:GT) (dst:Option Nat) (env:Env) (S:St):SR:=.val dst env S ((fillC z env ps).map .agg)
theorem fO_bld_eq (z:List AV) (ps:List (Nat×Nat×DOpd)) (gt:GT) (dst:Option Nat) (env:Env) (S:St):fO_bld z ps gt dst env S=stepO gt dst env S (.bld z ps):=by
  unfold fO_bld
  try simp only [lk_eq,xE]
  try rfl
noncomputable def fO_bldS (es:Nat) (n:Nat) (z:AV) (ps:List (Nat×DOpd)) (_gt:GT) (dst:Option Nat) (env:Env) (S:St):SR:=.val dst env S ((fillE es (List.replicate n z) env ps).map (.sl es ⟨none,0,some n,false⟩))
theorem fO_bldS_eq (es:Nat) (n:Nat) (z:AV) (ps:List (Nat×DOpd)) (gt:GT) (dst:Option Nat) (env:Env) (S:St):fO_bldS es n z ps gt dst env S=stepO gt dst env S (.bldS es n z ps):=by
  unfold fO_bldS
  try simp only [lk_eq,xE]
  try rfl
noncomputable def fO_bldT (ty:TypeId) (es:Nat) (n:Nat) (z:AV) (ps:List (Nat×DOpd)) (_gt:GT) (dst:Option Nat) (env:Env) (S:St):SR:=match fillE es (List.replicate n z) env ps with
    | some xs=>.done (putV dst (.sl es ⟨some (S.nt,S.nt),0,some n,false⟩ xs) env) { S with nt:=S.nt+1,tip:=(S.nt,some (n,ty,false))::S.tip }
    | none=>.fail
theorem fO_bldT_eq (ty:TypeId) (es:Nat) (n:Nat) (z:AV) (ps:List (Nat×DOpd)) (gt:GT) (dst:Option Nat) (env:Env) (S:St):fO_bldT ty es n z ps gt dst env S=stepO gt dst env S (.bldT ty es n z ps):=by
  unfold fO_bldT
  try simp only [lk_eq,xE]
  try rfl
noncomputable def fO_ld (agg:Bool) (sz:Nat) (a:DOpd) (gt:GT) (dst:Option Nat) (env:Env) (S:St):SR:=match loc env a with
    | some l=>.val dst env S (ldL gt env S agg sz l)
    | none=>.fail
theorem fO_ld_eq (agg:Bool) (sz:Nat) (a:DOpd) (gt:GT) (dst:Option Nat) (env:Env) (S:St):fO_ld agg sz a gt dst env S=stepO gt dst env S (.ld agg sz a):=by
  unfold fO_ld
  try simp only [lk_eq,xE]
  try rfl
noncomputable def fO_st (sz:Nat) (a:DOpd) (x:DOpd) (_gt:GT) (dst:Option Nat) (env:Env) (S:St):SR:=match loc env a,opd env x with
    | some l,some v=>bif Nat.beq v.cells.length sz && v.cells.all ok1 then (match stL env S v.cells l with
      | some (env',S')=>.done (putV dst .undef env') S'
      | none=>.fail) else .fail
    | _,_=>.fail
theorem fO_st_eq (sz:Nat) (a:DOpd) (x:DOpd) (gt:GT) (dst:Option Nat) (env:Env) (S:St):fO_st sz a x gt dst env S=stepO gt dst env S (.st sz a x):=by
  unfold fO_st
  try simp only [lk_eq,xE]
  try rfl
noncomputable def fO_nilc (x:DOpd) (_gt:GT) (dst:Option Nat) (env:Env) (S:St):SR:=match loc env x with
    | some l=>.done (putE dst (addL 0 l) env) S
    | none=>match opd env x with
      | some (.fn f fs cs)=>.done (putV dst (.fn f fs cs) env) S
      | some (.ifc t v)=>.done (putV dst (.ifc t v) env) S
      | _=>.fail
theorem fO_nilc_eq (x:DOpd) (gt:GT) (dst:Option Nat) (env:Env) (S:St):fO_nilc x gt dst env S=stepO gt dst env S (.nilc x):=by
  unfold fO_nilc
  try simp only [lk_eq,xE]
  try rfl
noncomputable def fO_bin (op:BinOp) (ek:Option EqK) (x:DOpd) (y:DOpd) (_gt:GT) (dst:Option Nat) (env:Env) (S:St):SR:=match opd env x,opd env y with
    | some a,some b=>.val dst env S (binV op ek a b)
    | _,_=>.fail
theorem fO_bin_eq (op:BinOp) (ek:Option EqK) (x:DOpd) (y:DOpd) (gt:GT) (dst:Option Nat) (env:Env) (S:St):fO_bin op ek x y gt dst env S=stepO gt dst env S (.bin op ek x y):=by
  unfold fO_bin
  try simp only [lk_eq,xE]
  try rfl
noncomputable def fO_un (op:UnOp) (x:DOpd) (_gt:GT) (dst:Option Nat) (env:Env) (S:St):SR:=.val dst env S ((opd env x).bind (unV op))
theorem fO_un_eq (op:UnOp) (x:DOpd) (gt:GT) (dst:Option Nat) (env:Env) (S:St):fO_un op x gt dst env S=stepO gt dst env S (.un op x):=by
  unfold fO_un
  try simp only [lk_eq,xE]
  try rfl
noncomputable def fO_cvI (k:IntKind) (x:DOpd) (_gt:GT) (dst:Option Nat) (env:Env) (S:St):SR:=match opd env x with
    | some (.int _ n)=>.done (putV dst (.int k (wr k n)) env) S
    | _=>.fail
theorem fO_cvI_eq (k:IntKind) (x:DOpd) (gt:GT) (dst:Option Nat) (env:Env) (S:St):fO_cvI k x gt dst env S=stepO gt dst env S (.cvI k x):=by
  unfold fO_cvI
  try simp only [lk_eq,xE]
  try rfl
noncomputable def fO_cvId (x:DOpd) (_gt:GT) (dst:Option Nat) (env:Env) (S:St):SR:=match opd env x with
    | some (.str s)=>.done (putV dst (.str s) env) S
    | _=>.fail
theorem fO_cvId_eq (x:DOpd) (gt:GT) (dst:Option Nat) (env:Env) (S:St):fO_cvId x gt dst env S=stepO gt dst env S (.cvId x):=by
  unfold fO_cvId
  try simp only [lk_eq,xE]
  try rfl
noncomputable def fO_cvBS (x:DOpd) (_gt:GT) (dst:Option Nat) (env:Env) (S:St):SR:=match opd env x with
    | some (.sl 1 o xs)=>.val dst env S (((elems S false 1 o xs).bind bytes?).map .str)
    | _=>.fail
theorem fO_cvBS_eq (x:DOpd) (gt:GT) (dst:Option Nat) (env:Env) (S:St):fO_cvBS x gt dst env S=stepO gt dst env S (.cvBS x):=by
  unfold fO_cvBS
  try simp only [lk_eq,xE]
  try rfl
noncomputable def fO_cvSB (ty:TypeId) (x:DOpd) (_gt:GT) (dst:Option Nat) (env:Env) (S:St):SR:=match opd env x with
    | some (.str s)=>bif Nat.ble s.length 17592186044416 then
        .done (putV dst (.sl 1 ⟨some (S.nt,S.nt),0,none,false⟩ (ofBytes s)) env) { S with nt:=S.nt+1,tip:=(S.nt,some (s.length,ty,true))::S.tip } else .fail
    | _=>.fail
theorem fO_cvSB_eq (ty:TypeId) (x:DOpd) (gt:GT) (dst:Option Nat) (env:Env) (S:St):fO_cvSB ty x gt dst env S=stepO gt dst env S (.cvSB ty x):=by
  unfold fO_cvSB
  try simp only [lk_eq,xE]
  try rfl
noncomputable def fO_cvU (x:DOpd) (_gt:GT) (dst:Option Nat) (env:Env) (S:St):SR:=match opd env x with
    | some .nilp=>.done (putV dst .nilp env) S
    | some (.ptr id off)=>match lk S.boxes id with
      | some (some (_,cs))=>bif Nat.blt off cs.length then .done (putV dst (.ptr id off) env) S else .fail
      | _=>.fail
    | _=>.fail
theorem fO_cvU_eq (x:DOpd) (gt:GT) (dst:Option Nat) (env:Env) (S:St):fO_cvU x gt dst env S=stepO gt dst env S (.cvU x):=by
  unfold fO_cvU
  try simp only [lk_eq,xE]
  try rfl
noncomputable def fO_cvP (ok:List (TypeId×Nat×Nat)) (x:DOpd) (_gt:GT) (dst:Option Nat) (env:Env) (S:St):SR:=match opd env x with
    | some .nilp=>.done (putV dst .nilp env) S
    | some (.ptr id off)=>match lk S.boxes id with
      | some (some (ty,cs))=>bif ok.any (fun p=>Nat.beq p.1 ty && (Nat.beq p.2.1 off && Nat.ble p.2.2 cs.length)) then .done (putV dst (.ptr id off) env) S else .fail
      | _=>.fail
    | _=>.fail
theorem fO_cvP_eq (ok:List (TypeId×Nat×Nat)) (x:DOpd) (gt:GT) (dst:Option Nat) (env:Env) (S:St):fO_cvP ok x gt dst env S=stepO gt dst env S (.cvP ok x):=by
  unfold fO_cvP
  try simp only [lk_eq,xE]
  try rfl
noncomputable def fO_mki (t:TypeId) (x:DOpd) (_gt:GT) (dst:Option Nat) (env:Env) (S:St):SR:=.val dst env S ((opd env x).map (.ifc t))
theorem fO_mki_eq (t:TypeId) (x:DOpd) (gt:GT) (dst:Option Nat) (env:Env) (S:St):fO_mki t x gt dst env S=stepO gt dst env S (.mki t x):=by
  unfold fO_mki
  try simp only [lk_eq,xE]
  try rfl
noncomputable def fO_mkf (f:FuncId) (fs:List DOpd) (cs:List DOpd) (_gt:GT) (dst:Option Nat) (env:Env) (S:St):SR:=match opds env fs,opds env cs with
    | some a,some b=>.done (putV dst (.fn f a b) env) S
    | _,_=>.fail
theorem fO_mkf_eq (f:FuncId) (fs:List DOpd) (cs:List DOpd) (gt:GT) (dst:Option Nat) (env:Env) (S:St):fO_mkf f fs cs gt dst env S=stepO gt dst env S (.mkf f fs cs):=by
  unfold fO_mkf
  try simp only [lk_eq,xE]
  try rfl
noncomputable def fO_mkm (_gt:GT) (dst:Option Nat) (env:Env) (S:St):SR:=.done (putV dst (.map S.nm) env) { S with nm:=S.nm+1,maps:=(S.nm,[])::S.maps }
theorem fO_mkm_eq (gt:GT) (dst:Option Nat) (env:Env) (S:St):fO_mkm  gt dst env S=stepO gt dst env S (.mkm ):=by
  unfold fO_mkm
  try simp only [lk_eq,xE]
  try rfl
noncomputable def fO_mks (ty:TypeId) (es:Nat) (bytes:Nat) (z:AV) (l:DOpd) (c:DOpd) (_gt:GT) (dst:Option Nat) (env:Env) (S:St):SR:=match (opd env l).bind nat?,(opd env c).bind nat? with
    | some l,some c=>bif Nat.ble l c && (Nat.ble (c*bytes) 17592186044416 && (Nat.ble c 17592186044416 && Nat.beq z.cells.length es)) then
        (bif Nat.beq c 0 then .done (putV dst (.sl es ⟨none,0,some 0,false⟩ []) env) S else
          .done (putV dst (.sl es ⟨some (S.nt,S.nt),0,some c,false⟩ (List.replicate l z)) env)
            { S with nb:=S.nb+1,boxes:=(S.nb,some (ty,(List.replicate c z.cells).flatten))::S.boxes,nt:=S.nt+1,tip:=(S.nt,none)::S.tip,mv:=(S.nt,.bx S.nb 0)::S.mv }) else .fail
    | _,_=>.fail
theorem fO_mks_eq (ty:TypeId) (es:Nat) (bytes:Nat) (z:AV) (l:DOpd) (c:DOpd) (gt:GT) (dst:Option Nat) (env:Env) (S:St):fO_mks ty es bytes z l c gt dst env S=stepO gt dst env S (.mks ty es bytes z l c):=by
  unfold fO_mks
  try simp only [lk_eq,xE]
  try rfl
noncomputable def fO_mksS (es:Nat) (bytes:Nat) (z:AV) (l:DOpd) (c:DOpd) (_gt:GT) (dst:Option Nat) (env:Env) (S:St):SR:=match (opd env l).bind nat?,(opd env c).bind nat? with
    | some l,some c=>bif Nat.ble l c && (Nat.ble (c*bytes) 17592186044416 && (Nat.ble c 17592186044416 && Nat.beq z.cells.length es)) then
        .done (putV dst (.sl es ⟨none,0,some c,false⟩ (List.replicate l z)) env) S else .fail
    | _,_=>.fail
theorem fO_mksS_eq (es:Nat) (bytes:Nat) (z:AV) (l:DOpd) (c:DOpd) (gt:GT) (dst:Option Nat) (env:Env) (S:St):fO_mksS es bytes z l c gt dst env S=stepO gt dst env S (.mksS es bytes z l c):=by
  unfold fO_mksS
  try simp only [lk_eq,xE]
  try rfl
noncomputable def fO_cvRS (x:DOpd) (_gt:GT) (dst:Option Nat) (env:Env) (S:St):SR:=match opd env x with
    | some (.int _ n)=>.done (putV dst (.str (Utf8.encode n).data.toList) env) S
    | _=>.fail
theorem fO_cvRS_eq (x:DOpd) (gt:GT) (dst:Option Nat) (env:Env) (S:St):fO_cvRS x gt dst env S=stepO gt dst env S (.cvRS x):=by
  unfold fO_cvRS
  try simp only [lk_eq,xE]
  try rfl
noncomputable def fO_slS (x:DOpd) (lo:Option DOpd) (hi:Option DOpd) (_gt:GT) (dst:Option Nat) (env:Env) (S:St):SR:=match opd env x with
    | some (.str s)=>match bnds env s.length lo hi with
      | some (l,h)=>.done (putV dst (.str ((s.drop l).take (h-l))) env) S
      | none=>.fail
    | _=>.fail
theorem fO_slS_eq (x:DOpd) (lo:Option DOpd) (hi:Option DOpd) (gt:GT) (dst:Option Nat) (env:Env) (S:St):fO_slS x lo hi gt dst env S=stepO gt dst env S (.slS x lo hi):=by
  unfold fO_slS
  try simp only [lk_eq,xE]
  try rfl
noncomputable def fO_slA (es:Nat) (x:DOpd) (lo:Option DOpd) (hi:Option DOpd) (mx:Option DOpd) (_gt:GT) (dst:Option Nat) (env:Env) (S:St):SR:=match opd env x with
    | some (.sl es' o xs)=>bif Nat.beq es es' then (match bnds env xs.length lo hi with
      | some (l,h)=>match mx with
        | none=>.done (putV dst (.sl es { o with off:=o.off+l,cap:=o.cap.map (· - l) } ((xs.drop l).take (h-l))) env) S
        | some m=>match (opd env m).bind nat? with
          | some m=>bif Nat.ble h m && Nat.ble m xs.length then
              .done (putV dst (.sl es { o with off:=o.off+l,cap:=some (m-l) } ((xs.drop l).take (h-l))) env) S else .fail
          | none=>.fail
      | none=>.fail) else .fail
    | _=>.fail
theorem fO_slA_eq (es:Nat) (x:DOpd) (lo:Option DOpd) (hi:Option DOpd) (mx:Option DOpd) (gt:GT) (dst:Option Nat) (env:Env) (S:St):fO_slA es x lo hi mx gt dst env S=stepO gt dst env S (.slA es x lo hi mx):=by
  unfold fO_slA
  try simp only [lk_eq,xE]
  try rfl
noncomputable def fO_slP (es:Nat) (n:Nat) (x:DOpd) (lo:Option DOpd) (hi:Option DOpd) (_gt:GT) (dst:Option Nat) (env:Env) (S:St):SR:=match loc env x with
    | some (.hp id off)=>match lk S.boxes id,bnds env n lo hi with
      | some (some (_,cs)),some (l,h)=>bif Nat.ble (off+n*es) cs.length && Nat.blt 0 es then
          .done (putV dst (.sl es ⟨some (S.nt,S.nt),l,some (n-l),false⟩ (List.replicate (h-l) .undef)) env)
            { S with nt:=S.nt+1,tip:=(S.nt,none)::S.tip,mv:=(S.nt,.bx id off)::S.mv } else .fail
      | _,_=>.fail
    | _=>.fail
theorem fO_slP_eq (es:Nat) (n:Nat) (x:DOpd) (lo:Option DOpd) (hi:Option DOpd) (gt:GT) (dst:Option Nat) (env:Env) (S:St):fO_slP es n x lo hi gt dst env S=stepO gt dst env S (.slP es n x lo hi):=by
  unfold fO_slP
  try simp only [lk_eq,xE]
  try rfl
noncomputable def fO_fa (off:Nat) (x:DOpd) (_gt:GT) (dst:Option Nat) (env:Env) (S:St):SR:=match loc env x with
    | some l=>.done (putE dst (addL off l) env) S
    | none=>.fail
theorem fO_fa_eq (off:Nat) (x:DOpd) (gt:GT) (dst:Option Nat) (env:Env) (S:St):fO_fa off x gt dst env S=stepO gt dst env S (.fa off x):=by
  unfold fO_fa
  try simp only [lk_eq,xE]
  try rfl
noncomputable def fO_fd (agg:Bool) (off:Nat) (sz:Nat) (x:DOpd) (_gt:GT) (dst:Option Nat) (env:Env) (S:St):SR:=match opd env x with
    | some (.agg cs)=>.val dst env S ((cut cs off sz).bind (mkv agg))
    | _=>.fail
theorem fO_fd_eq (agg:Bool) (off:Nat) (sz:Nat) (x:DOpd) (gt:GT) (dst:Option Nat) (env:Env) (S:St):fO_fd agg off sz x gt dst env S=stepO gt dst env S (.fd agg off sz x):=by
  unfold fO_fd
  try simp only [lk_eq,xE]
  try rfl
noncomputable def fO_ia (es:Nat) (x:DOpd) (i:DOpd) (_gt:GT) (dst:Option Nat) (env:Env) (S:St):SR:=match opd env x,(opd env i).bind nat? with
    | some (.sl es' o xs),some i=>bif Nat.beq es es' && Nat.blt i xs.length then .done (putV dst (.eptr es o xs i 0) env) S else .fail
    | _,_=>.fail
theorem fO_ia_eq (es:Nat) (x:DOpd) (i:DOpd) (gt:GT) (dst:Option Nat) (env:Env) (S:St):fO_ia es x i gt dst env S=stepO gt dst env S (.ia es x i):=by
  unfold fO_ia
  try simp only [lk_eq,xE]
  try rfl
noncomputable def fO_iaA (es:Nat) (n:Nat) (x:DOpd) (i:DOpd) (_gt:GT) (dst:Option Nat) (env:Env) (S:St):SR:=match loc env x,(opd env i).bind nat? with
    | some l,some i=>bif Nat.blt i n then .done (putE dst (addL (i*es) l) env) S else .fail
    | _,_=>.fail
theorem fO_iaA_eq (es:Nat) (n:Nat) (x:DOpd) (i:DOpd) (gt:GT) (dst:Option Nat) (env:Env) (S:St):fO_iaA es n x i gt dst env S=stepO gt dst env S (.iaA es n x i):=by
  unfold fO_iaA
  try simp only [lk_eq,xE]
  try rfl
noncomputable def fO_ixS (x:DOpd) (i:DOpd) (_gt:GT) (dst:Option Nat) (env:Env) (S:St):SR:=match opd env x,(opd env i).bind nat? with
    | some (.str s),some i=>match s[i]? with
      | some b=>.done (putV dst (.int .u8 b.toNat) env) S
      | none=>.fail
    | _,_=>.fail
theorem fO_ixS_eq (x:DOpd) (i:DOpd) (gt:GT) (dst:Option Nat) (env:Env) (S:St):fO_ixS x i gt dst env S=stepO gt dst env S (.ixS x i):=by
  unfold fO_ixS
  try simp only [lk_eq,xE]
  try rfl
noncomputable def fO_ixA (agg:Bool) (es:Nat) (n:Nat) (x:DOpd) (i:DOpd) (_gt:GT) (dst:Option Nat) (env:Env) (S:St):SR:=match opd env x,(opd env i).bind nat? with
    | some (.agg cs),some i=>bif Nat.blt i n then .val dst env S ((cut cs (i*es) es).bind (mkv agg)) else .fail
    | _,_=>.fail
theorem fO_ixA_eq (agg:Bool) (es:Nat) (n:Nat) (x:DOpd) (i:DOpd) (gt:GT) (dst:Option Nat) (env:Env) (S:St):fO_ixA agg es n x i gt dst env S=stepO gt dst env S (.ixA agg es n x i):=by
  unfold fO_ixA
  try simp only [lk_eq,xE]
  try rfl
noncomputable def fO_lkp (ek:EqK) (z:AV) (m:DOpd) (k:DOpd) (ok:Bool) (_gt:GT) (dst:Option Nat) (env:Env) (S:St):SR:=match opd env m,opd env k with
    | some (.map id),some k=>bif keyV ek k then (match lk S.maps id with
      | some es=>match findK ek k es 0 with
        | some (some (_,v))=>.done (putV dst (bif ok then .tup [v,.bool true] else v) env) S
        | some none=>.done (putV dst (bif ok then .tup [z,.bool false] else z) env) S
        | none=>.fail
      | none=>.fail) else .fail
    | _,_=>.fail
theorem fO_lkp_eq (ek:EqK) (z:AV) (m:DOpd) (k:DOpd) (ok:Bool) (gt:GT) (dst:Option Nat) (env:Env) (S:St):fO_lkp ek z m k ok gt dst env S=stepO gt dst env S (.lkp ek z m k ok):=by
  unfold fO_lkp
  try simp only [lk_eq,xE]
  try rfl
noncomputable def fO_mup (ek:EqK) (m:DOpd) (k:DOpd) (x:DOpd) (_gt:GT) (dst:Option Nat) (env:Env) (S:St):SR:=match opd env m,opd env k,opd env x with
    | some (.map id),some k,some v=>bif keyV ek k then (match lk S.maps id with
      | some es=>match findK ek k es 0 with
        | some (some (i,_))=>bif keyAt ek es i then .done (putV dst .undef env) { S with maps:=(id,es.set i (k,v))::S.maps } else .fail
        | some none=>.done (putV dst .undef env) { S with maps:=(id,es++[(k,v)])::S.maps }
        | none=>.fail
      | none=>.fail) else .fail
    | _,_,_=>.fail
theorem fO_mup_eq (ek:EqK) (m:DOpd) (k:DOpd) (x:DOpd) (gt:GT) (dst:Option Nat) (env:Env) (S:St):fO_mup ek m k x gt dst env S=stepO gt dst env S (.mup ek m k x):=by
  unfold fO_mup
  try simp only [lk_eq,xE]
  try rfl
noncomputable def fO_mpe (ek:EqK) (z:AV) (m:DOpd) (k:DOpd) (_gt:GT) (dst:Option Nat) (env:Env) (S:St):SR:=match opd env m,opd env k with
    | some (.map id),some k=>bif keyV ek k then (match lk S.maps id with
      | some es=>match findK ek k es 0 with
        | some (some (i,v))=>bif keyAt ek es i then .done (putV dst (.tup [v,.int .i64 i]) env) { S with maps:=(id,es.set i (k,v))::S.maps } else .fail
        | some none=>.done (putV dst (.tup [z,.int .i64 es.length]) env) { S with maps:=(id,es++[(k,z)])::S.maps }
        | none=>.fail
      | none=>.fail) else .fail
    | _,_=>.fail
theorem fO_mpe_eq (ek:EqK) (z:AV) (m:DOpd) (k:DOpd) (gt:GT) (dst:Option Nat) (env:Env) (S:St):fO_mpe ek z m k gt dst env S=stepO gt dst env S (.mpe ek z m k):=by
  unfold fO_mpe
  try simp only [lk_eq,xE]
  try rfl
noncomputable def fO_ens (m:DOpd) (s:DOpd) (x:DOpd) (_gt:GT) (dst:Option Nat) (env:Env) (S:St):SR:=match opd env m,opd env s,opd env x with
    | some (.map id),some (.int _ (.ofNat i)),some v=>match lk S.maps id with
      | some es=>match es[i]? with
        | some (k,_)=>.done (putV dst .undef env) { S with maps:=(id,es.set i (k,v))::S.maps }
        | none=>.fail
      | none=>.fail
    | _,_,_=>.fail
theorem fO_ens_eq (m:DOpd) (s:DOpd) (x:DOpd) (gt:GT) (dst:Option Nat) (env:Env) (S:St):fO_ens m s x gt dst env S=stepO gt dst env S (.ens m s x):=by
  unfold fO_ens
  try simp only [lk_eq,xE]
  try rfl
noncomputable def fO_ext (x:DOpd) (i:Nat) (_gt:GT) (dst:Option Nat) (env:Env) (S:St):SR:=match opd env x with
    | some (.tup vs)=>.val dst env S vs[i]?
    | _=>.fail
theorem fO_ext_eq (x:DOpd) (i:Nat) (gt:GT) (dst:Option Nat) (env:Env) (S:St):fO_ext x i gt dst env S=stepO gt dst env S (.ext x i):=by
  unfold fO_ext
  try simp only [lk_eq,xE]
  try rfl
noncomputable def fO_len (x:DOpd) (_gt:GT) (dst:Option Nat) (env:Env) (S:St):SR:=match opd env x with
    | some (.sl _ _ xs)=>.done (putV dst (.int .i64 xs.length) env) S
    | _=>.fail
theorem fO_len_eq (x:DOpd) (gt:GT) (dst:Option Nat) (env:Env) (S:St):fO_len x gt dst env S=stepO gt dst env S (.len x):=by
  unfold fO_len
  try simp only [lk_eq,xE]
  try rfl
noncomputable def fO_lenS (x:DOpd) (_gt:GT) (dst:Option Nat) (env:Env) (S:St):SR:=match opd env x with
    | some (.str s)=>.done (putV dst (.int .i64 s.length) env) S
    | _=>.fail
theorem fO_lenS_eq (x:DOpd) (gt:GT) (dst:Option Nat) (env:Env) (S:St):fO_lenS x gt dst env S=stepO gt dst env S (.lenS x):=by
  unfold fO_lenS
  try simp only [lk_eq,xE]
  try rfl
noncomputable def fO_lenM (x:DOpd) (_gt:GT) (dst:Option Nat) (env:Env) (S:St):SR:=match opd env x with
    | some .nilmap=>.done (putV dst (.int .i64 0) env) S
    | some (.map id)=>match lk S.maps id with
      | some es=>.done (putV dst (.int .i64 es.length) env) S
      | none=>.fail
    | _=>.fail
theorem fO_lenM_eq (x:DOpd) (gt:GT) (dst:Option Nat) (env:Env) (S:St):fO_lenM x gt dst env S=stepO gt dst env S (.lenM x):=by
  unfold fO_lenM
  try simp only [lk_eq,xE]
  try rfl
noncomputable def fO_lenC (n:Nat) (_gt:GT) (dst:Option Nat) (env:Env) (S:St):SR:=.done (putV dst (.int .i64 n) env) S
theorem fO_lenC_eq (n:Nat) (gt:GT) (dst:Option Nat) (env:Env) (S:St):fO_lenC n gt dst env S=stepO gt dst env S (.lenC n):=by
  unfold fO_lenC
  try simp only [lk_eq,xE]
  try rfl
noncomputable def fO_app (agg:Bool) (ty:TypeId) (es:Nat) (bytes:Nat) (x:DOpd) (y:DOpd) (_gt:GT) (dst:Option Nat) (env:Env) (S:St):SR:=match opd env x,opd env y with
    | some a,some b=>match appV S agg ty es bytes a b with
      | some (v,S')=>.done (putV dst v env) S'
      | none=>.fail
    | _,_=>.fail
theorem fO_app_eq (agg:Bool) (ty:TypeId) (es:Nat) (bytes:Nat) (x:DOpd) (y:DOpd) (gt:GT) (dst:Option Nat) (env:Env) (S:St):fO_app agg ty es bytes x y gt dst env S=stepO gt dst env S (.app agg ty es bytes x y):=by
  unfold fO_app
  try simp only [lk_eq,xE]
  try rfl
noncomputable def fO_usd (x:DOpd) (_gt:GT) (dst:Option Nat) (env:Env) (S:St):SR:=match opd env x with
    | some (.sl 1 o (x::xs))=>.done (putV dst (.eptr 1 o (x::xs) 0 0) env) S
    | some (.sl _ o [])=>bif o.isNil then .done (putV dst .anyp env) S else match o.cap with
      | some (_+1)=>.done (putV dst .anyp env) S
      | _=>.fail
    | _=>.fail
theorem fO_usd_eq (x:DOpd) (gt:GT) (dst:Option Nat) (env:Env) (S:St):fO_usd x gt dst env S=stepO gt dst env S (.usd x):=by
  unfold fO_usd
  try simp only [lk_eq,xE]
  try rfl
noncomputable def fO_ustr (ty:TypeId) (x:DOpd) (n:DOpd) (_gt:GT) (dst:Option Nat) (env:Env) (S:St):SR:=match opd env x,opd env n with
    | some .anyp,some (.int .i64 (.ofNat 0))=>.done (putV dst (.str []) env) S
    | some (.eptr 1 o xs 0 0),some (.int .i64 (.ofNat n))=>match rd S o,o.tok with
      |.here,some (t,_)=>match lk S.tip t with
        | some (some (_,ty',false))=>bif Nat.beq ty ty' && (Nat.beq o.off 0 && (Nat.beq n xs.length && Nat.ble n 17592186044416)) then
            (match bytes? xs with
              | some s=>.done (putV dst (.str s) env) { S with tip:=(t,none)::S.tip }
              | none=>.fail) else .fail
        | _=>.fail
      |.box b boff,_=>match lk S.boxes b with
        | some (some (ty',cs))=>bif Nat.beq ty ty' && (Nat.beq (boff+o.off) 0 && (Nat.blt 0 n && (Nat.ble n cs.length && Nat.ble n 17592186044416))) then
            (match bytes? (cs.take n) with
              | some s=>.done (putV dst (.str s) env) { S with boxes:=(b,none)::S.boxes }
              | none=>.fail) else .fail
        | _=>.fail
      | _,_=>.fail
    | _,_=>.fail
theorem fO_ustr_eq (ty:TypeId) (x:DOpd) (n:DOpd) (gt:GT) (dst:Option Nat) (env:Env) (S:St):fO_ustr ty x n gt dst env S=stepO gt dst env S (.ustr ty x n):=by
  unfold fO_ustr
  try simp only [lk_eq,xE]
  try rfl
noncomputable def fO_cpy (es:Nat) (x:DOpd) (y:DOpd) (_gt:GT) (dst:Option Nat) (env:Env) (S:St):SR:=match opd env x,opd env y with
    | some (.sl es' o xs),some y=>match srcE S (Nat.blt 1 es) es y with
      | some ys=>bif Nat.beq es' es then (bif Nat.beq (min ys.length xs.length) 0 then .done (putV dst (.int .i64 0) env) S else match rd S o with
        |.box b boff=>match lk S.boxes b with
          | some (some (ty,cs))=>bif ((ys.take (min ys.length xs.length)).flatMap AV.cells).all ok1 && Nat.ble (boff+o.off*es+((ys.take (min ys.length xs.length)).flatMap AV.cells).length) cs.length then
              .done (putV dst (.int .i64 ((min ys.length xs.length:Nat):Int)) env) { S with boxes:=(b,some (ty,splice cs (boff+o.off*es) ((ys.take (min ys.length xs.length)).flatMap AV.cells)))::S.boxes } else .fail
          | _=>.fail
        | _=>.fail) else .fail
      | none=>.fail
    | _,_=>.fail
theorem fO_cpy_eq (es:Nat) (x:DOpd) (y:DOpd) (gt:GT) (dst:Option Nat) (env:Env) (S:St):fO_cpy es x y gt dst env S=stepO gt dst env S (.cpy es x y):=by
  unfold fO_cpy
  try simp only [lk_eq,xE]
  try rfl
noncomputable def fO_mx (xs:List DOpd) (_gt:GT) (dst:Option Nat) (env:Env) (S:St):SR:=match opds env xs with
    | some (v::vs)=>.val dst env S (foldV mxV v vs)
    | _=>.fail
theorem fO_mx_eq (xs:List DOpd) (gt:GT) (dst:Option Nat) (env:Env) (S:St):fO_mx xs gt dst env S=stepO gt dst env S (.mx xs):=by
  unfold fO_mx
  try simp only [lk_eq,xE]
  try rfl
noncomputable def fO_mn (xs:List DOpd) (_gt:GT) (dst:Option Nat) (env:Env) (S:St):SR:=match opds env xs with
    | some (v::vs)=>.val dst env S (foldV mnV v vs)
    | _=>.fail
theorem fO_mn_eq (xs:List DOpd) (gt:GT) (dst:Option Nat) (env:Env) (S:St):fO_mn xs gt dst env S=stepO gt dst env S (.mn xs):=by
  unfold fO_mn
  try simp only [lk_eq,xE]
  try rfl
noncomputable def fO_tas (ok:Bool) (t:TypeId) (z:AV) (x:DOpd) (_gt:GT) (dst:Option Nat) (env:Env) (S:St):SR:=match opd env x with
    | some .nilif=>bif ok then .done (putV dst (.tup [z,.bool false]) env) S else .fail
    | some (.ifc u v)=>bif Nat.beq u t then .done (putV dst (bif ok then .tup [v,.bool true] else v) env) S else
        bif ok then .done (putV dst (.tup [z,.bool false]) env) S else .fail
    | _=>.fail
theorem fO_tas_eq (ok:Bool) (t:TypeId) (z:AV) (x:DOpd) (gt:GT) (dst:Option Nat) (env:Env) (S:St):fO_tas ok t z x gt dst env S=stepO gt dst env S (.tas ok t z x):=by
  unfold fO_tas
  try simp only [lk_eq,xE]
  try rfl
noncomputable def fO_xtn (e:ExtK) (xs:List DOpd) (_gt:GT) (dst:Option Nat) (env:Env) (S:St):SR:=match opds env xs with
    | some vs=>.val dst env S (xtnV e vs)
    | none=>.fail
theorem fO_xtn_eq (e:ExtK) (xs:List DOpd) (gt:GT) (dst:Option Nat) (env:Env) (S:St):fO_xtn e xs gt dst env S=stepO gt dst env S (.xtn e xs):=by
  unfold fO_xtn
  try simp only [lk_eq,xE]
  try rfl
noncomputable def fO_call (f:FuncId) (xs:List DOpd) (_gt:GT) (_dst:Option Nat) (env:Env) (_S:St):SR:=match opds env xs with
    | some vs=>.call f vs
    | none=>.fail
theorem fO_call_eq (f:FuncId) (xs:List DOpd) (gt:GT) (dst:Option Nat) (env:Env) (S:St):fO_call f xs gt dst env S=stepO gt dst env S (.call f xs):=by
  unfold fO_call
  try simp only [lk_eq,xE]
  try rfl
noncomputable def fO_callv (x:DOpd) (xs:List DOpd) (_gt:GT) (_dst:Option Nat) (env:Env) (_S:St):SR:=match opd env x,opds env xs with
    | some (.fn f fs cs),some vs=>.call f (fs++vs++cs)
    | _,_=>.fail
theorem fO_callv_eq (x:DOpd) (xs:List DOpd) (gt:GT) (dst:Option Nat) (env:Env) (S:St):fO_callv x xs gt dst env S=stepO gt dst env S (.callv x xs):=by
  unfold fO_callv
  try simp only [lk_eq,xE]
  try rfl
noncomputable def fO_inv (x:DOpd) (tab:List (TypeId×FuncId)) (xs:List DOpd) (_gt:GT) (_dst:Option Nat) (env:Env) (_S:St):SR:=match opd env x,opds env xs with
    | some (.ifc t v),some vs=>match lk tab t with
      | some f=>.call f (v::vs)
      | none=>.fail
    | _,_=>.fail
theorem fO_inv_eq (x:DOpd) (tab:List (TypeId×FuncId)) (xs:List DOpd) (gt:GT) (dst:Option Nat) (env:Env) (S:St):fO_inv x tab xs gt dst env S=stepO gt dst env S (.inv x tab xs):=by
  unfold fO_inv
  try simp only [lk_eq,xE]
  try rfl
noncomputable def fO_pnc (x:DOpd) (_gt:GT) (_dst:Option Nat) (env:Env) (_S:St):SR:=match opd env x with
    | some (.ifc t v)=>.pan (.ifc t v)
    | _=>.fail
theorem fO_pnc_eq (x:DOpd) (gt:GT) (dst:Option Nat) (env:Env) (S:St):fO_pnc x gt dst env S=stepO gt dst env S (.pnc x):=by
  unfold fO_pnc
  try simp only [lk_eq,xE]
  try rfl
noncomputable def fO (op:DOp):GT→Option Nat→Env→St→SR :=
  DOp.casesOn (motive:=fun _=>GT→Option Nat→Env→St→SR) op
   fO_mv fO_pick fO_alL fO_alH fO_bxL fO_bxH fO_bld fO_bldS
   fO_bldT fO_ld fO_st fO_nilc fO_bin fO_un fO_cvI fO_cvId
   fO_cvBS fO_cvSB fO_cvU fO_cvP fO_mki fO_mkf fO_mkm fO_mks
   fO_mksS fO_cvRS fO_slS fO_slA fO_slP fO_fa fO_fd fO_ia
   fO_iaA fO_ixS fO_ixA fO_lkp fO_mup fO_mpe fO_ens fO_ext
   fO_len fO_lenS fO_lenM fO_lenC fO_app fO_usd fO_ustr fO_cpy
   fO_mx fO_mn fO_tas fO_xtn fO_call fO_callv fO_inv fO_pnc
theorem fO_eq (op:DOp) (gt:GT) (dst:Option Nat) (env:Env) (S:St):fO op gt dst env S=stepO gt dst env S op:=by
  cases op
  · exact fO_mv_eq ..
  · exact fO_pick_eq ..
  · exact fO_alL_eq ..
  · exact fO_alH_eq ..
  · exact fO_bxL_eq ..
  · exact fO_bxH_eq ..
  · exact fO_bld_eq ..
  · exact fO_bldS_eq ..
  · exact fO_bldT_eq ..
  · exact fO_ld_eq ..
  · exact fO_st_eq ..
  · exact fO_nilc_eq ..
  · exact fO_bin_eq ..
  · exact fO_un_eq ..
  · exact fO_cvI_eq ..
  · exact fO_cvId_eq ..
  · exact fO_cvBS_eq ..
  · exact fO_cvSB_eq ..
  · exact fO_cvU_eq ..
  · exact fO_cvP_eq ..
  · exact fO_mki_eq ..
  · exact fO_mkf_eq ..
  · exact fO_mkm_eq ..
  · exact fO_mks_eq ..
  · exact fO_mksS_eq ..
  · exact fO_cvRS_eq ..
  · exact fO_slS_eq ..
  · exact fO_slA_eq ..
  · exact fO_slP_eq ..
  · exact fO_fa_eq ..
  · exact fO_fd_eq ..
  · exact fO_ia_eq ..
  · exact fO_iaA_eq ..
  · exact fO_ixS_eq ..
  · exact fO_ixA_eq ..
  · exact fO_lkp_eq ..
  · exact fO_mup_eq ..
  · exact fO_mpe_eq ..
  · exact fO_ens_eq ..
  · exact fO_ext_eq ..
  · exact fO_len_eq ..
  · exact fO_lenS_eq ..
  · exact fO_lenM_eq ..
  · exact fO_lenC_eq ..
  · exact fO_app_eq ..
  · exact fO_usd_eq ..
  · exact fO_ustr_eq ..
  · exact fO_cpy_eq ..
  · exact fO_mx_eq ..
  · exact fO_mn_eq ..
  · exact fO_tas_eq ..
  · exact fO_xtn_eq ..
  · exact fO_call_eq ..
  · exact fO_callv_eq ..
  · exact fO_inv_eq ..
  · exact fO_pnc_eq ..
noncomputable def fI (gt:GT) (i:DI) (env:Env) (S:St):SR :=
  match i.guard with
  | none=>fO i.op gt i.dst env S
  | some (g,want)=>match lk env g with
    | some (.val (.bool b))=>bif b == want then fO i.op gt i.dst env S else .done (putV i.dst .undef env) S
    | some (.val .undef)=>.done (putV i.dst .undef env) S
    | _=>.fail
theorem fI_eq (gt:GT) (i:DI) (env:Env) (S:St):fI gt i env S=stepI gt i env S:=by
  unfold fI stepI
  simp only [fO_eq,lk_eq]
  rfl
noncomputable def fDO (gt:GT) (i:DI×Option Nat) (env:Env) (S:St):SR :=
  bif isLoc i.1.op then stepL i.1.dst env S i.1.op else bif conform i.2 env i.1.op then fO i.1.op gt i.1.dst env S else .fail
noncomputable def fD (gt:GT) (i:DI×Option Nat) (env:Env) (S:St):SR :=
  match i.1.guard with
  | none=>fDO gt i env S
  | some (g,want)=>match lk env g with
    | some (.val (.bool b))=>bif b == want then fDO gt i env S else .done (putV i.1.dst .undef env) S
    | some (.val .undef)=>.done (putV i.1.dst .undef env) S
    | _=>.fail
theorem fD_eq (gt:GT) (i:DI×Option Nat) (env:Env) (S:St):fD gt i env S=stepD gt i env S:=by
  unfold fD stepD fDO stepDO
  simp only [fO_eq,lk_eq,conform_eq,stepL_eq]
  rfl
noncomputable def fstays (gt:GT) (env:Env) (S:St) (x:DI×Option Nat):Bool :=
  match x.1.dst with
  | some d=>match fD gt x env S with
    |.done e _=>match lk e d,lk env d with
      | some (.val v),some (.val v')=>beqA v v'
      | _,_=>false
    | _=>false
  | none=>false
theorem fstays_eq (gt:GT) (env:Env) (S:St) (x:DI×Option Nat):fstays gt env S x=stays gt env S x:=by
  unfold fstays stays
  simp only [fD_eq,lk_eq]
  rfl
noncomputable def fstab (gt:GT) (xs:List (DI×Option Nat)) (env:Env) (S:St):Bool:=xs.all (fstays gt env S)
theorem fstab_eq (gt:GT) (xs:List (DI×Option Nat)) (env:Env) (S:St):fstab gt xs env S=stab gt xs env S:=by
  unfold fstab stab
  congr 1
  funext x
  exact fstays_eq gt env S x
end Go.Dn.F
