/- The Boolean interpreter with deferred calls and with functions whose contract is given. -/
import Derived.Test.YthgidapmofcloaaGreatDoorWj
set_option linter.unusedSimpArgs false
set_option linter.unusedVariables false
namespace Go.Dn
open Go Go.RowKit
abbrev CallUB:=FuncId->List AV->UM->St->(UM->St->Bool)->Bool
noncomputable def finB (gt:GT)(rs:List DR)(env:Env)(S:St)(Q:Res->St->Bool):Bool :=
 match Dn.F.result gt env S rs with
 | some v=>Q (.ret v) S
 | none=>false
noncomputable def exDD (gt:GT)(C:CallB)(U:CallUB)(lf:Nat)(F:DD)(xs:List AV)(S:St)(Q:Res->St->Bool):Bool :=
 bif Nat.beq xs.length F.np then xD gt C lf F.pre (enterE xs 0) S λe env S=>match e with
  |.normal=>xIs gt C F.is env S λe env S=>match e with
   |.normal=>match opd env (.t F.x) with
    | some (.fn f fs cs)=>xD gt C lf F.post (keepV env F.keep) S λe env' S=>match e with
     |.normal |.ret=>U f (fs++cs) .ret S λu S=>match u with
      |.ret=>finB gt F.res env' S Q
      | _=>false
     |.pan v=>U f (fs++cs) (.pan v) S λu S=>match u with
      |.rcv=>finB gt F.res (keepV (keepV env F.keep) F.pin) S Q
      |.pan v=>Q (.pan v) S
      |.ret=>false
     |.exit _=>false
    | _=>false
   |.pan v=>Q (.pan v) S
   | _=>false
  |.ret=>finB gt F.res env S Q
  |.pan v=>Q (.pan v) S
  |.exit _=>false
 else false
noncomputable def exG (gt:GT)(C:CallB)(lf:Nat)(F:DG)(xs:List AV)(v:AV)(u':UM)(S:St)(Q:UM->St->Bool):Bool :=
 xIs gt C F.is ((F.dst,.val v)::enterE xs 0) S λe env S=>match e with
  |.normal=>xD gt C lf F.post (keepE env F.keep) S λe _ S=>match e with
   |.normal |.ret=>Q u' S
   | _=>false
  | _=>false
noncomputable def exDG (gt:GT)(C:CallB)(lf:Nat)(F:DG)(xs:List AV)(u:UM)(S:St)(Q:UM->St->Bool):Bool :=
 bif Nat.beq xs.length F.np then (match u with
  |.ret=>exG gt C lf F xs .nilif .ret S Q
  |.pan v=>exG gt C lf F xs v .rcv S Q
  |.rcv=>false)
 else false
noncomputable def exU (gt:GT)(tab:FuncId->Option DX)(C:CallB)(lf:Nat)(f:FuncId)(xs:List AV)(u:UM)(S:St)(Q:UM->St->Bool):Bool :=
 match tab f with
 | some (.pl F)=>exF gt C lf F xs S λr S'=>match r with
  |.ret _=>(match u with
   |.rcv=>false
   | _=>Q u S')
  |.pan _=>false
 | some (.rc F)=>exDG gt C lf F xs u S Q
 | _=>false
inductive PrimK where
 | errAs (t tp:TypeId)
 | errIs (t ti:TypeId)
 | index
 | grow (ty:TypeId) (es bytes:Nat)
def preB:List UInt8->List UInt8->Bool
 | [],_=>true
 | _::_,[]=>false
 | a::x,b::y=>bif Nat.beq a.toNat b.toNat then preB x y else false
def idxS (sub:List UInt8):List UInt8->Nat->Int
 | [],i=>match sub with
  | []=>(i:Int)
  | _::_=>-1
 | b::l,i=>bif preB sub (b::l) then (i:Int) else idxS sub l (i+1)
def primV:PrimK->List AV->St->Option (AV×St)
 |.errAs _ _,[.nilif,_],S=>some (.bool false,S)
 |.errAs t tp,[.ifc t' (.ptr id off),.ifc tp' (.ptr tid 0)],S=>bif Nat.beq t t' && Nat.beq tp tp' then (match lk S.boxes tid with
  | some (some (ty,[_]))=>some (.bool true,{ S with boxes:=(tid,some (ty,[.ptr id off]))::S.boxes })
  | _=>none) else none
 |.errIs t ti,[.ifc t' (.ptr id off),.ifc ti' (.int .i64 n)],S=>bif Nat.beq t t' && Nat.beq ti ti' then (match lk S.boxes id with
  | some (some (_,cs))=>match cs[off+1]? with
   | some (.int .i64 m)=>bif m == n then some (.bool true,S) else none
   | _=>none
  | _=>none) else none
 |.index,[.str s,.str sub],S=>bif Nat.ble s.length 4294967280 then some (.int .i64 (idxS sub s 0),S) else none
 |.grow ty es bytes,[.sl es' o [],.int .i64 (.ofNat n)],S=>bif o.isNil && Nat.beq es' es then
   (bif Nat.beq n 0 then some (.sl es' o [],S) else bif Nat.ble (n*bytes) 140737488355328 && Nat.ble n 140737488355328 then
    some (.sl es ⟨some (S.nt,S.nt),0,none,false⟩ [],{ S with nt:=S.nt+1,tip:=(S.nt,some (0,ty,false))::S.tip }) else none) else none
 | _,_,_=>none
noncomputable def exec2 (gt:GT)(pr:FuncId->Option PrimK)(tab:FuncId->Option DX)(lf:Nat):Nat->CallB
 | 0,_,_,_,_=>false
 | n+1,f,xs,S,Q=>match tab f with
  | some (.pl F)=>exF gt (exec2 gt pr tab lf n) lf F xs S Q
  | some (.df F)=>exDD gt (exec2 gt pr tab lf n) (exU gt tab (exec2 gt pr tab lf n) lf) lf F xs S Q
  | _=>match pr f with
   | some k=>match primV k xs S with
    | some (v,S')=>Q (.ret v) S'
    | none=>false
   | none=>false
section
variable {gt:GT}{C:CallB}{C':CallT}{U:CallUB}{U':CallU}
def SoundU (U:CallUB)(U':CallU):Prop:=∀f xs u S k,U f xs u S k=true->U' f xs u S λu S'=>k u S'=true
def MonoU (U':CallU):Prop:=∀f xs u S Q Q',U' f xs u S Q->(∀r S',Q r S'->Q' r S')->U' f xs u S Q'
theorem finB_sound {rs:List DR}{env:Env}{S:St}{Q:Res->St->Bool}(h:finB gt rs env S Q=true):∃v,result gt env S rs=some v/\Q (.ret v) S=true:=by
 unfold finB at h;rw[Dn.F.result_eq]at h;split at h
 ·rename_i v hv;exact⟨v,hv,h⟩
 ·cases h
theorem exDD_sound (hC:SoundC C C')(hm:MonoC C')(hU:SoundU U U')(hmU:MonoU U'){lf:Nat}{F:DD}{xs:List AV}{S:St}{Q:Res->St->Bool}(h:exDD gt C U lf F xs S Q=true):wpDD gt C' U' F xs S λr S=>Q r S=true:=by
 unfold exDD at h;simp only[xD_eq,xIs_eq]at h;cases hb:Nat.beq xs.length F.np with
 | false=>rw[hb]at h;cases h
 | true =>
  rw[hb]at h;refine⟨bE hb,exD_sound hC hm lf _ _ _ _ _ (λe env S h'=>?_) h⟩;cases e with
  | normal =>
   refine exIs_sound hC hm _ _ _ _ _ (λe env S h'=>?_) h';cases e with
   | normal =>
    simp only at h' ⊢;split at h'
    ·rename_i f fs cs hx;simp only[hx];refine exD_sound hC hm lf _ _ _ _ _ (λe env' S h'=>?_) h';cases e with
     | normal =>
      refine hmU _ _ _ _ _ _ (hU _ _ _ _ _ h') λu S h=>?_;cases u with
      | ret=>exact finB_sound h
      | pan v=>cases h
      | rcv=>cases h
     | ret =>
      refine hmU _ _ _ _ _ _ (hU _ _ _ _ _ h') λu S h=>?_;cases u with
      | ret=>exact finB_sound h
      | pan v=>cases h
      | rcv=>cases h
     | pan v =>
      refine hmU _ _ _ _ _ _ (hU _ _ _ _ _ h') λu S h=>?_;cases u with
      | ret=>cases h
      | pan v=>exact h
      | rcv=>exact finB_sound h
     | exit id=>cases h'
    ·cases h'
   | ret=>cases h'
   | pan v=>exact h'
   | exit id=>cases h'
  | ret=>exact finB_sound h'
  | pan v=>exact h'
  | exit id=>cases h'
theorem exG_sound (hC:SoundC C C')(hm:MonoC C'){lf:Nat}{F:DG}{xs:List AV}{v:AV}{u':UM}{S:St}{Q:UM->St->Bool}(h:exG gt C lf F xs v u' S Q=true):wpDG.go gt C' F xs S (λu S=>Q u S=true) v u':=by
 unfold exG at h;simp only[xD_eq,xIs_eq]at h;refine exIs_sound hC hm _ _ _ _ _ (λe env S h'=>?_) h;cases e with
 | normal =>
  refine exD_sound hC hm lf _ _ _ _ _ (λe env S h'=>?_) h';cases e with
  | normal=>exact h'
  | ret=>exact h'
  | pan v=>cases h'
  | exit id=>cases h'
 | ret=>cases h'
 | pan v=>cases h'
 | exit id=>cases h'
theorem exDG_sound (hC:SoundC C C')(hm:MonoC C'){lf:Nat}{F:DG}{xs:List AV}{u:UM}{S:St}{Q:UM->St->Bool}(h:exDG gt C lf F xs u S Q=true):wpDG gt C' F xs u S λu S=>Q u S=true:=by
 unfold exDG at h;cases hb:Nat.beq xs.length F.np with
 | false=>rw[hb]at h;cases h
 | true =>
  rw[hb]at h;refine⟨bE hb,?_⟩;cases u with
  | ret=>exact exG_sound hC hm h
  | pan v=>exact exG_sound hC hm h
  | rcv=>cases h
end
section
variable {P:Program}{gt:GT}
theorem ACU_mono:MonoU (ACU P gt):=λf xs u S Q Q' h hq =>
 ⟨h.1,λG w args m hI hx hu=>(h.2 G w args m hI hx hu).mono λe m' w' hp=>by
  cases e with
  | returned v=>obtain⟨u',S',G',q,t,r⟩:=hp;exact⟨u',S',G',hq _ _ q,t,r⟩
  | panicked chain=>exact hp.elim
  | outgrown=>exact hp.elim⟩
inductive FnOK2 (P:Program)(f:FuncId):DX->Prop
 | pl {fn : Func} {n : Note} {F : DF} (hf : P.funcs[f]? = some fn) (hn : (fn.name == "runtime.NumGoroutine") = false) (hp : prepF P n fn = some F) : FnOK2 P f (.pl F)
 | df {fn : Func} {n : Note} {F : DD} (hf : P.funcs[f]? = some fn) (hn : (fn.name == "runtime.NumGoroutine") = false) (hp : prepD P n fn = some F) : FnOK2 P f (.df F)
 | rc {fn : Func} {n : Note} {F : DG} (hf : P.funcs[f]? = some fn) (hn : (fn.name == "runtime.NumGoroutine") = false) (hp : prepG P n fn = some F) : FnOK2 P f (.rc F)
inductive TabOK2 (P:Program):List (Nat×DX)->Prop
 | nil:TabOK2 P []
 | cons {f:Nat} {F:DX} {r:List (Nat×DX)} (h:FnOK2 P f F) (k:TabOK2 P r):TabOK2 P ((f,F)::r)
theorem TabOK2.get {l:List (Nat×DX)}(h:TabOK2 P l):∀{f F},lk l f=some F->FnOK2 P f F:=by
 induction h with
 | nil=>intro f F h;cases h
 | @cons f0 F0 r h k ih =>
  intro f F hl;rw[lk_cons]at hl;by_cases e:f0=f
  ·rw[if_pos e]at hl;cases hl;subst e;exact h
  ·rw[if_neg e]at hl;exact ih hl
def PrimOK (P:Program)(gt:GT)(f:FuncId)(k:PrimK):Prop:=∀xs S v S',primV k xs S=some (v,S')->AC P gt f xs S λr S''=>r=.ret v/\S''=S'
inductive PrimsOK (P:Program)(gt:GT):List (Nat×PrimK)->Prop
 | nil:PrimsOK P gt []
 | cons {f:Nat} {F:PrimK} {r:List (Nat×PrimK)} (h:PrimOK P gt f F) (k:PrimsOK P gt r):PrimsOK P gt ((f,F)::r)
theorem PrimsOK.get {l:List (Nat×PrimK)}(h:PrimsOK P gt l):∀{f F},lk l f=some F->PrimOK P gt f F:=by
 induction h with
 | nil=>intro f F h;cases h
 | @cons f0 F0 r h k ih =>
  intro f F hl;rw[lk_cons]at hl;by_cases e:f0=f
  ·rw[if_pos e]at hl;cases hl;subst e;exact h
  ·rw[if_neg e]at hl;exact ih hl
theorem exec2_sound (hm:P.follows .mixedOrders=true){l:List (Nat×DX)}(hl:TabOK2 P l){pl:List (Nat×PrimK)}(hp:PrimsOK P gt pl){lf:Nat}:∀n,SoundC (exec2 gt (λf=>lk pl f) (λf=>lk l f) lf n) (AC P gt)
 | 0,_,_,_,_,h=>by cases h
 | n+1,f,xs,S,k,h=>by
  have hC:=exec2_sound hm hl hp (lf:=lf) n;have hU:SoundU (exU gt (λf=>lk l f) (exec2 gt (λf=>lk pl f) (λf=>lk l f) lf n) lf) (ACU P gt):=by
   intro f xs u S k h;unfold exU at h;split at h
   ·rename_i F hF;cases hl.get hF with
    | pl hf hn hp =>
     refine ACU_intro hm hf hn hp (exF_sound hC AC_mono (λr S' h=>?_) h);cases r with
     | ret v =>
      cases u with
      | ret=>exact h
      | pan v=>exact h
      | rcv=>cases h
     | pan v=>cases h
   ·rename_i F hF;cases hl.get hF with
    | rc hf hn hp=>exact ACU_introG hm hf hn hp (exDG_sound hC AC_mono h)
   ·cases h
  simp only[exec2]at h;split at h
  ·rename_i F hF;cases hl.get hF with
   | pl hf hn hp=>exact AC_intro hm hf hn hp (exF_sound hC AC_mono (λ_ _ h=>h) h)
  ·rename_i F hF;cases hl.get hF with
   | df hf hn hp=>exact AC_introD hm hf hn hp (exDD_sound hC AC_mono hU ACU_mono h)
  ·split at h
   ·rename_i kk hk;split at h
    ·rename_i v S' hv;exact AC_mono _ _ _ _ _ (hp.get hk _ _ _ _ hv) λr S'' hr=>by obtain⟨rfl,rfl⟩:=hr;exact h
    ·cases h
   ·cases h
theorem inv0g {W:World}(hg:∀g cs,lk gt g=some cs->∃c ty fr,W.heap[g]? = some (.cells c ty fr)/\Rl St.init (G0 W) W cs c.toList):Inv P gt St.init (G0 W) W :=
 { (inv0 (P:=P) (W:=W)) with
  glob:=λg cs h=>by
   obtain⟨c,ty,fr,h1,h2⟩:=hg g cs h;exact⟨lt_of_some h1,c,ty,fr,h1,h2⟩ }
end
end Go.Dn
