/- The same interpreter as a Boolean, with fuel, for the kernel. -/
import Derived.Test.YthgidapmofcloaaGreatDoorWc
set_option linter.unusedSimpArgs false
set_option linter.unusedVariables false
namespace Go.Dn
open Go
abbrev CallB:=FuncId->List AV->St->(Res->St->Bool)->Bool
def afterB (C:CallB)(dst:Option Nat)(env:Env)(S:St)(K:Env->St->Bool)(Q:Ex->Env->St->Bool):SR->Bool
 |.fail=>false
 |.done env' S'=>K env' S'
 |.call f xs=>C f xs S λr S'=>match r with
  |.ret v=>K (putV dst v env) S'
  |.pan v=>Q (.pan v) env S'
 |.pan v=>Q (.pan v) env S
def exIs (gt:GT)(C:CallB):List DI->Env->St->(Ex->Env->St->Bool)->Bool
 | [],env,S,Q=>Q .normal env S
 | i::r,env,S,Q=>afterB C i.dst env S (λenv' S'=>exIs gt C r env' S' Q) Q (stepI gt i env S)
def exDs (gt:GT)(C:CallB):List DRow->Env->St->(Ex->Env->St->Bool)->Bool
 | [],env,S,Q=>Q .normal env S
 | i::r,env,S,Q=>afterB C i.1.1.dst env S (λenv' S'=>bif stab gt i.2 env' S' then exDs gt C r env' S' Q else false) Q (stepD gt i.1 env S)
def iterB (body:Env->St->(Ex->Env->St->Bool)->Bool):Nat->Env->St->(Ex->Env->St->Bool)->Bool
 | 0,_,_,_=>false
 | n+1,env,S,Q=>body env S λe env' S'=>match e with
  |.normal=>iterB body n env' S' Q
  | e=>Q e env' S'
def exD (gt:GT)(C:CallB)(lf:Nat):DC->Env->St->(Ex->Env->St->Bool)->Bool
 |.skip,env,S,Q=>Q .normal env S
 |.reg is keep,env,S,Q=>exIs gt C is env S λe env' S'=>Q e (keepE env' keep) S'
 |.drw is keep,env,S,Q=>exDs gt C is env S λe env' S'=>Q e (keepE env' keep) S'
 |.trim keep,env,S,Q=>Q .normal (keepE env keep) S
 |.fail,_,_,_=>false
 |.ndet is keep,env,S,Q=>match is with
  | [a,b,c,d]=>afterB C a.dst env S (λenv' S'=>(exIs gt C [b,c,d] env' S' λe env' S'=>Q e (keepE env' keep) S') && (exIs gt C [c,b,d] env' S' λe env' S'=>Q e (keepE env' keep) S')) (λe env' S'=>Q e (keepE env' keep) S') (stepI gt a env S)
  | _=>false
 |.seq a b,env,S,Q=>exD gt C lf a env S λe env' S'=>match e with
  |.normal=>exD gt C lf b env' S' Q
  | e=>Q e env' S'
 |.cnd x a b,env,S,Q=>match opd env x with
  | some (.bool t)=>bif t then exD gt C lf a env S Q else exD gt C lf b env S Q
  | _=>false
 |.blk id c,env,S,Q=>exD gt C lf c env S λe env' S'=>match e with
  |.exit id'=>bif Nat.beq id' id then Q .normal env' S' else Q (.exit id') env' S'
  | e=>Q e env' S'
 |.lop c,env,S,Q=>iterB (exD gt C lf c) lf env S Q
 |.exit id,env,S,Q=>Q (.exit id) env S
 |.ret,env,S,Q=>Q .ret env S
abbrev KB:=Env->St->(Ex->Env->St->Bool)->Bool
def xSkip:KB:=λenv S Q=>Q .normal env S
noncomputable def xOne (gt:GT)(C:CallB)(i:DI)(ih:KB):KB:=λenv S Q=>afterB C i.dst env S (λenv' S'=>ih env' S' Q) Q (F.fI gt i env S)
noncomputable def xIs (gt:GT)(C:CallB)(is:List DI):KB:=List.rec (motive:=λ_=>KB) xSkip (λi _ ih=>xOne gt C i ih) is
noncomputable def xOneD (gt:GT)(C:CallB)(i:DRow)(ih:KB):KB:=λenv S Q=>afterB C i.1.1.dst env S (λenv' S'=>bif F.fstab gt i.2 env' S' then ih env' S' Q else false) Q (F.fD gt i.1 env S)
noncomputable def xDs (gt:GT)(C:CallB)(is:List DRow):KB:=List.rec (motive:=λ_=>KB) xSkip (λi _ ih=>xOneD gt C i ih) is
noncomputable def xKeep (keep:List Nat)(Q:Ex->Env->St->Bool):Ex->Env->St->Bool:=λe env' S'=>Q e (F.keepE env' keep) S'
noncomputable def xReg (gt:GT)(C:CallB)(is:List DI)(keep:List Nat):KB:=λenv S Q=>xIs gt C is env S (xKeep keep Q)
noncomputable def xDrw (gt:GT)(C:CallB)(is:List DRow)(keep:List Nat):KB:=λenv S Q=>xDs gt C is env S (xKeep keep Q)
noncomputable def xTrim (keep:List Nat):KB:=λenv S Q=>Q .normal (F.keepE env keep) S
def xFail:KB:=λ_ _ _=>false
def xThen (b:KB)(Q:Ex->Env->St->Bool):Ex->Env->St->Bool:=λe env' S'=>match e with
 |.normal=>b env' S' Q
 | e=>Q e env' S'
def xSeq (a b:KB):KB:=λenv S Q=>a env S (xThen b Q)
noncomputable def xCnd (x:DOpd)(a b:KB):KB:=λenv S Q=>match F.opd env x with
 | some (.bool t)=>(bif t then a else b) env S Q
 | _=>false
def xBlkQ (id:Nat)(Q:Ex->Env->St->Bool):Ex->Env->St->Bool:=λe env' S'=>match e with
 |.exit id'=>bif Nat.beq id' id then Q .normal env' S' else Q (.exit id') env' S'
 | e=>Q e env' S'
def xBlk (id:Nat)(c:KB):KB:=λenv S Q=>c env S (xBlkQ id Q)
def xAgain (c:KB)(ih:KB):KB:=λenv S Q=>c env S (xThen ih Q)
noncomputable def xIter (c:KB)(n:Nat):KB:=Nat.rec (motive:=λ_=>KB) xFail (λ_ ih=>xAgain c ih) n
noncomputable def xLop (lf:Nat)(c:KB):KB:=xIter c lf
def xExit (id:Nat):KB:=λenv S Q=>Q (.exit id) env S
def xRet:KB:=λenv S Q=>Q .ret env S
noncomputable def xD (gt:GT)(C:CallB)(lf:Nat)(c:DC):KB :=
 DC.rec (motive:=λ_=>KB) xSkip (xReg gt C) (xDrw gt C) xTrim xFail (λis keep=>exD gt C lf (.ndet is keep)) (λ_ _ a b=>xSeq a b) (λx _ _ a b=>xCnd x a b) (λid _ c=>xBlk id c) (λ_ c=>xLop lf c) xExit xRet c
theorem xIs_eq (gt:GT)(C:CallB)(is:List DI):xIs gt C is=exIs gt C is:=by
 induction is with
 | nil=>rfl
 | cons i r ih =>
  show xOne gt C i (xIs gt C r)=_;rw[ih]
  funext env S Q
  simp only[xOne,exIs,F.fI_eq]
theorem xDs_eq (gt:GT)(C:CallB)(is:List DRow):xDs gt C is=exDs gt C is:=by
 induction is with
 | nil=>rfl
 | cons i r ih =>
  show xOneD gt C i (xDs gt C r)=_;rw[ih]
  funext env S Q
  simp only[xOneD,exDs,F.fD_eq,F.fstab_eq]
theorem xIter_eq (c:KB)(n:Nat):xIter c n=iterB c n:=by
 induction n with
 | zero=>rfl
 | succ n ih =>
  show xAgain c (xIter c n)=_;rw[ih]
  funext env S Q
  simp only[xAgain,iterB]
  congr 1
theorem xKeep_eq (keep:List Nat)(Q:Ex->Env->St->Bool):xKeep keep Q=λe env' S'=>Q e (keepE env' keep) S':=by
 funext e env S
 simp only[xKeep,F.keepE_eq]
theorem xD_eq (gt:GT)(C:CallB)(lf:Nat)(c:DC):xD gt C lf c=exD gt C lf c:=by
 induction c with
 | reg is keep =>
  show xReg gt C is keep=_
  funext env S Q
  simp only[xReg,exD,xIs_eq,xKeep_eq]
 | drw is keep =>
  show xDrw gt C is keep=_
  funext env S Q
  simp only[xDrw,exD,xDs_eq,xKeep_eq]
 | trim keep =>
  show xTrim keep=_
  funext env S Q
  simp only[xTrim,exD,F.keepE_eq]
 | seq a b iha ihb =>
  show xSeq (xD gt C lf a) (xD gt C lf b)=_;rw[iha,ihb];rfl
 | cnd x a b iha ihb =>
  show xCnd x (xD gt C lf a) (xD gt C lf b)=_;rw[iha,ihb]
  funext env S Q
  simp only[xCnd,exD,F.opd_eq];split
  ·rename_i t ht;cases t<;>rfl
  ·rfl
 | blk id c ih =>
  show xBlk id (xD gt C lf c)=_;rw[ih];rfl
 | lop c ih =>
  show xLop lf (xD gt C lf c)=_;rw[ih];show xIter _ _=_;rw[xIter_eq];rfl
 | _=>rfl
noncomputable def bodyB (gt:GT)(rs:List DR)(Q:Res->St->Bool):Ex->Env->St->Bool
 |.normal,env,S |.ret,env,S=>match Dn.F.result gt env S rs with
  | some v=>Q (.ret v) S
  | none=>false
 |.pan v,_,S=>Q (.pan v) S
 |.exit _,_,_=>false
noncomputable def exF (gt:GT)(C:CallB)(lf:Nat)(F:DF)(xs:List AV)(S:St)(Q:Res->St->Bool):Bool :=
 bif Nat.beq xs.length F.np then xD gt C lf F.body (enterE xs 0) S (bodyB gt F.res Q) else false
section
variable {gt:GT}{C:CallB}{C':CallT}
def SoundC (C:CallB)(C':CallT):Prop:=∀f xs S k,C f xs S k=true->C' f xs S λr S'=>k r S'=true
def MonoC (C':CallT):Prop:=∀f xs S Q Q',C' f xs S Q->(∀r S',Q r S'->Q' r S')->C' f xs S Q'
theorem afterB_sound (hC:SoundC C C')(hm:MonoC C'){dst:Option Nat}{env:Env}{S:St}{K:Env->St->Bool}{Q:Ex->Env->St->Bool}{K':Env->St->Prop}{Q':Ex->Env->St->Prop}(hk:∀env S,K env S=true->K' env S)(hq:∀e env S,Q e env S=true->Q' e env S){r:SR}
  (h:afterB C dst env S K Q r=true):afterS C' dst env S K' Q' r:=by
 cases r with
 | fail=>cases h
 | done env' S'=>exact hk _ _ h
 | call f xs =>
  refine hm _ _ _ _ _ (hC _ _ _ _ h) λr S' hr=>?_;cases r with
  | ret v=>exact hk _ _ hr
  | pan v=>exact hq _ _ _ hr
 | pan v=>exact hq _ _ _ h
theorem exIs_sound (hC:SoundC C C')(hm:MonoC C'):∀(is:List DI) (env:Env) (S:St) (Q:Ex->Env->St->Bool) (Q':Ex->Env->St->Prop),(∀e env S,Q e env S=true->Q' e env S)->exIs gt C is env S Q=true->wpIs gt C' is env S Q'
 | [],_,_,_,_,hq,h=>hq _ _ _ h
 | i::r,env,S,Q,Q',hq,h=>by
  exact afterB_sound hC hm (λenv' S' h'=>exIs_sound hC hm r env' S' Q Q' hq h') hq h
theorem exDs_sound (hC:SoundC C C')(hm:MonoC C'):∀(is:List DRow) (env:Env) (S:St) (Q:Ex->Env->St->Bool) (Q':Ex->Env->St->Prop),(∀e env S,Q e env S=true->Q' e env S)->exDs gt C is env S Q=true->wpDs gt C' is env S Q'
 | [],_,_,_,_,hq,h=>hq _ _ _ h
 | i::r,env,S,Q,Q',hq,h=>by
  exact afterB_sound hC hm (λenv' S' h'=>by
  cases hs:stab gt i.2 env' S' with
  | false=>rw[hs]at h';cases h'
  | true=>rw[hs]at h';exact⟨rfl,exDs_sound hC hm r env' S' Q Q' hq h'⟩) hq h
theorem exD_sound (hC:SoundC C C')(hm:MonoC C')(lf:Nat):∀(c:DC) (env:Env) (S:St) (Q:Ex->Env->St->Bool) (Q':Ex->Env->St->Prop),(∀e env S,Q e env S=true->Q' e env S)->exD gt C lf c env S Q=true->wpD gt C' c env S Q'
 |.skip,_,_,_,_,hq,h=>hq _ _ _ h
 |.reg is keep,env,S,Q,Q',hq,h=>exIs_sound hC hm is env S _ _ (λe env S h'=>hq _ _ _ h') h
 |.drw is keep,env,S,Q,Q',hq,h=>exDs_sound hC hm is env S _ _ (λe env S h'=>hq _ _ _ h') h
 |.trim keep,_,_,_,_,hq,h=>hq _ _ _ h
 |.fail,_,_,_,_,_,h=>by cases h
 |.ndet is keep,env,S,Q,Q',hq,h=>by
  simp only[exD]at h;simp only[wpD];split at h
  ·refine afterB_sound hC hm (λenv' S' h'=>?_) (λe env S h'=>hq _ _ _ h') h;simp only[bA]at h';exact⟨exIs_sound hC hm _ _ _ _ _ (λe env S h'=>hq _ _ _ h') h'.1,exIs_sound hC hm _ _ _ _ _ (λe env S h'=>hq _ _ _ h') h'.2⟩
  ·cases h
 |.seq a b,env,S,Q,Q',hq,h=>exD_sound hC hm lf a env S _ _ (λe env S h'=>by
   cases e with
   | normal=>exact exD_sound hC hm lf b env S Q Q' hq h'
   | _=>exact hq _ _ _ h') h
 |.cnd x a b,env,S,Q,Q',hq,h=>by
  simp only[exD]at h;simp only[wpD];split at h
  ·rename_i t ht;simp only[ht];cases t with
   | true=>rw[if_pos rfl];exact exD_sound hC hm lf a env S Q Q' hq h
   | false=>rw[if_neg (by decide)];exact exD_sound hC hm lf b env S Q Q' hq h
  ·cases h
 |.blk id c,env,S,Q,Q',hq,h=>exD_sound hC hm lf c env S _ _ (λe env S h'=>by
   cases e with
   | exit id' =>
    simp only at h' ⊢;by_cases hid:id'=id
    ·subst hid;rw[Nat.beq_refl]at h';rw[if_pos rfl];exact hq _ _ _ h'
    ·have:Nat.beq id' id=false:=by
      cases hb:Nat.beq id' id
      ·rfl
      ·exact absurd (bE hb) hid
     rw[this]at h';rw[if_neg hid];exact hq _ _ _ h'
   | _=>exact hq _ _ _ h') h
 |.lop c,env,S,Q,Q',hq,h=>by
  refine⟨lf,?_⟩;have key:∀n env S,iterB (exD gt C lf c) n env S Q=true->iterD (wpD gt C' c) n env S Q':=by
   intro n
   induction n with
   | zero=>intro env S h;cases h
   | succ n ih =>
    intro env S h;exact exD_sound hC hm lf c env S _ _ (λe env S h'=>by
     cases e with
     | normal=>exact ih _ _ h'
     | _=>exact hq _ _ _ h') h
  exact key lf env S h
 |.exit id,_,_,_,_,hq,h=>hq _ _ _ h
 |.ret,_,_,_,_,hq,h=>hq _ _ _ h
theorem exF_sound (hC:SoundC C C')(hm:MonoC C'){lf:Nat}{F:DF}{xs:List AV}{S:St}{Q:Res->St->Bool}{Q':Res->St->Prop}(hq:∀r S,Q r S=true->Q' r S)(h:exF gt C lf F xs S Q=true):wpF gt C' F xs S Q':=by
 unfold exF at h;rw[xD_eq]at h;cases hb:Nat.beq xs.length F.np with
 | false=>rw[hb]at h;cases h
 | true =>
  rw[hb]at h;refine⟨bE hb,exD_sound hC hm lf _ _ _ _ _ (λe env S h'=>?_) h⟩;cases e with
  | normal =>
   simp only[bodyB,Dn.F.result_eq]at h';split at h'
   ·rename_i v hv;exact⟨v,hv,hq _ _ h'⟩
   ·cases h'
  | ret =>
   simp only[bodyB,Dn.F.result_eq]at h';split at h'
   ·rename_i v hv;exact⟨v,hv,hq _ _ h'⟩
   ·cases h'
  | pan v=>exact hq _ _ h'
  | exit id=>cases h'
end
end Go.Dn
