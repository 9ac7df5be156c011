/- One operation, sixth part: maps, slices that are made. One operation, seventh part: slices that are made and that grow. One operation, eighth part: new rows, bytes and strings. One operation, ninth part: made slices, bytes and strings, unsafe pointers, doors. One operation, tenth part: strings from bytes, unsafe pointers, doors. One operation, last part: copy. One operation: the whole table. One operation: every row of the table. Code: what the abstract code says is what the machine does. What a row of a drawn region reads and writes. Rows that do not look at the store, rows that do not turn it. -/
import Derived.Lib.ConvBytes
import Derived.Lib.UnsafeStr
import Derived.Laws.BytesString
import Derived.Lib.Bytealg
import Derived.Laws.MakeOwn
import Derived.Test.YthgidapmofcloaaGreatDoorWa
set_option linter.unusedSimpArgs false
set_option linter.unusedVariables false
namespace Go.Dn
open Go Go.RowKit
section
variable {P:Program}{gt:GT}{O:Orig}{S:St}{G:Gh}{w:World}{env env':Env}{a:Act}{S':St}{o:Oper}
theorem keyK_desc {t:TypeId}{ek:EqK}(h:keyK P t=some ek):∃d,P.underlying t=some d/\((d=.bool/\ek=.bool)\/(∃k,d=.int k/\ek=.int)\/(d=.string/\ek=.str) \/
  (∃fs,ek=.st fs/\eqkP P 8 t=some (.st fs)/\(fs.all λp=>simpleK p.2)=true/\((∃l,d=.struct l)\/∃n e,d=.array n e))):=by
 unfold keyK at h;split at h
 ·rename_i hu;cases h;exact⟨_,hu,.inl ⟨rfl,rfl⟩⟩
 ·rename_i k hu;cases h;exact⟨_,hu,.inr (.inl ⟨k,rfl,rfl⟩)⟩
 ·rename_i hu;cases h;exact⟨_,hu,.inr (.inr (.inl ⟨rfl,rfl⟩))⟩
 ·rename_i l hu;split at h
  ·rename_i fs he;split at h
   ·rename_i ha;cases h;exact⟨_,hu,.inr (.inr (.inr ⟨fs,rfl,he,ha,.inl ⟨l,rfl⟩⟩))⟩
   ·cases h
  ·cases h
 ·rename_i n e hu;split at h
  ·rename_i fs he;split at h
   ·rename_i ha;cases h;exact⟨_,hu,.inr (.inr (.inr ⟨fs,rfl,he,ha,.inr ⟨n,e,rfl⟩⟩))⟩
   ·cases h
  ·cases h
 ·cases h
def simpK (ek:EqK):Prop:=∀fs,ek≠.st fs
theorem sameNow_sound {t:TypeId}{ek:EqK}{d:TypeDesc}(hk:keyK P t=some ek)(hsk:simpK ek)(hu:P.underlying t=some d){x y:AV}{u v:Value}{b:Bool}(he:eqv ek x y=some b)(hx:Rv S G w x u)(hy:Rv S G w y v):Instr.sameNow d u v=some b:=by
 obtain⟨d',hu',hd⟩:=keyK_desc hk;rw[hu]at hu';cases hu';rcases hd with⟨rfl,rfl⟩ | ⟨k,rfl,rfl⟩ | ⟨rfl,rfl⟩ | ⟨fs,rfl,_⟩
 rotate_right
 ·exact absurd rfl (hsk fs)
 ·simp only[eqv]at he;unfold eqBool at he;split at he
  ·cases he;simp only[Rv]at hx hy;subst hx;subst hy;rfl
  ·cases he
 ·simp only[eqv]at he;unfold eqInt at he;split at he
  ·split at he
   ·rename_i hkk;cases he;simp only[Rv]at hx hy;subst hx;subst hy;simp[Instr.sameNow,hkk]
   ·cases he
  ·cases he
 ·simp only[eqv]at he;unfold eqStr at he;split at he
  ·rename_i s1 s2;cases he;simp only[Rv]at hx hy;subst hx;subst hy;simp only[Instr.sameNow,beq_toListBytes,ByteArray.toList_eq,beqB_eq]
  ·cases he
theorem findNow_sound {t:TypeId}{ek:EqK}{d:TypeDesc}(hk:keyK P t=some ek)(hsk:simpK ek)(hu:P.underlying t=some d){k:AV}{kv:Value}(hkv:Rv S G w k kv):∀{es:List (AV×AV)} {ents:List MapEntry} {i:Nat} {r:Option (Nat×AV)},RlE S G w es ents->findK ek k es i=some r ->
  match r with
  | none=>Instr.findNow d kv ents i=some none
  | some (j,x)=>∃v,Rv S G w x v/\Instr.findNow d kv ents i=some (some (j,v))/\i<=j/\∃k',es[j-i]? = some (k',x)/\eqv ek k k'=some true
 | [],_,i,r,hr,hf=>by
  simp only[RlE]at hr;subst hr;simp only[findK,oI]at hf;subst hf;rfl
 | (k',x)::es,_,i,r,hr,hf=>by
  obtain⟨e,ents',rfl,h1,h2,h3⟩:=hr;simp only[findK]at hf;split at hf
  ·rename_i he;cases hf;refine⟨e.val,h2,?_,nR _,k',by simp,he⟩;simp only[Instr.findNow,sameNow_sound hk hsk hu he hkv h1]
  ·rename_i he;have ih:=findNow_sound hk hsk hu hkv h3 hf;have hs:=sameNow_sound hk hsk hu he hkv h1;cases r with
   | none =>
    simp only at ih ⊢;simp only[Instr.findNow,hs];exact ih
   | some p =>
    obtain⟨j,y⟩:=p;simp only at ih ⊢;obtain⟨v,g1,g2,g3,k2,g4,g5⟩:=ih;refine⟨v,g1,by simp only[Instr.findNow,hs];exact g2,by omega,k2,?_,g5⟩;rw[show j-i=(j-(i+1))+1 by omega];simpa using g4
  ·cases hf
theorem eqkP_simple {d:Nat}{t:TypeId}{k:EqK}(h:eqkP P d t=some k)(hs:simpleK k=true):∃u,P.underlying t=some u/\(u=.bool\/(∃k,u=.int k)\/u=.string):=by
 cases d with
 | zero=>cases h
 | succ d =>
  simp only[eqkP]at h;split at h
  ·rename_i hu;exact⟨_,hu,.inl rfl⟩
  ·rename_i k hu;exact⟨_,hu,.inr (.inl ⟨k,rfl⟩)⟩
  ·rename_i hu;exact⟨_,hu,.inr (.inr rfl)⟩
  ·split at h<;>cases h;cases hs
  ·cases h;cases hs
  ·cases h;cases hs
  ·cases h;cases hs
  ·cases h;cases hs
  ·split at h
   ·cases h
   ·obtain⟨_,_,rfl⟩:=Option.map_eq_some_iff.1 h;cases hs
  ·split at h
   ·obtain⟨_,_,rfl⟩:=Option.map_eq_some_iff.1 h;cases hs
   ·cases h
  ·cases h
theorem run_checkSimple {t:TypeId}{u:TypeDesc}(hu:P.underlying t=some u)(hd:u=.bool\/(∃k,u=.int k)\/u=.string){b:Bool}{n:Nat}{v:Value}:(Instr.checkKey b (n+1) t v).run P w=.ok () w:=by
 simp only[Instr.checkKey,Sem.run_bind,run_underlying hu,Result.andThen_ok];rcases hd with rfl | ⟨k,rfl⟩ | rfl<;>rfl
theorem keyFs_get:∀{fs:List (Nat×EqK)} {cs:List AV} {i:Nat},keyFs fs cs i=true->cs.length=fs.length/\∀j p,fs[j]? = some p->p.1=i+j
 | [],[],i,_=>⟨rfl,λj p h=>by simp at h⟩
 | [],_::_,i,h=>by simp[keyFs]at h
 | _::_,[],i,h=>by simp[keyFs]at h
 | q::fs,c::cs,i,h=>by
  simp only[keyFs,bA]at h;obtain⟨h1,h2⟩:=keyFs_get h.2;refine⟨by simp[h1],λj p hp=>?_⟩;cases j with
  | zero=>simp at hp;subst hp;rw[bE h.1];rfl
  | succ j=>rw[h2 j p (by simpa using hp)];omega
theorem run_checkKey {t:TypeId}{ek:EqK}(hk:keyK P t=some ek){b:Bool}{n:Nat}{k:AV}{v:Value}(hkv:keyV ek k=true)(hr:Rv S G w k v):(Instr.checkKey b (n+2) t v).run P w=.ok () w:=by
 obtain⟨d,hu,hd⟩:=keyK_desc hk;rcases hd with⟨rfl,_⟩ | ⟨k,rfl,_⟩ | ⟨rfl,_⟩ | ⟨fs,rfl,he,hall,hd⟩
 ·exact run_checkSimple hu (.inl rfl)
 ·exact run_checkSimple hu (.inr (.inl ⟨k,rfl⟩))
 ·exact run_checkSimple hu (.inr (.inr rfl))
 ·cases k<;>simp only[keyV,Bool.false_eq_true]at hkv
  rename_i cs;simp only[Rv]at hr;obtain⟨vs,rfl,hr⟩:=hr;obtain⟨hlen,hoff⟩:=keyFs_get hkv;have hvl:=hr.length;obtain⟨dd,hdd⟩:∃dd:Nat,8=dd+1:=⟨7,rfl⟩
  rw[hdd]at he;rcases hd with⟨l,rfl⟩ | ⟨m,e,rfl⟩
  ·simp only[eqkP,hu]at he;split at he
   ·cases he
   ·obtain⟨ks,hm,hks⟩:=Option.map_eq_some_iff.1 he;cases hks;obtain⟨n',hn'⟩:∃n',n+1=n':=⟨_,rfl⟩
    rw[show n+2=n'+1 by rw[<-hn']];simp only[Instr.checkKey,Sem.run_bind,run_underlying hu,Result.andThen_ok];subst hn';rw[<-Array.forIn_toList];have hlt:∀p∈fs,p.1<vs.length:=λp hp=>by
     obtain⟨j,hj,rfl⟩:=List.getElem_of_mem hp;have:=hoff j _ (gE hj);omega
    clear hoff hlen hu he hkv hk
    generalize l.toList=L at hm ⊢
    induction L generalizing fs with
    | nil=>simp
    | cons f L ih =>
     obtain⟨k,ks',h1,h2,rfl⟩:=mapM_some_cons hm;simp only[List.all_cons,bA]at hall;split at h1
     ·cases h1
     ·rename_i hname;split at h1
      ·rename_i hagg;obtain⟨q,hq,rfl⟩:=Option.map_eq_some_iff.1 h1;obtain⟨u,hu1,hu2⟩:=eqkP_simple hq hall.1;have hl:=hlt _ (List.mem_cons_self ..);have p1:(part f.type ⟨vs⟩ f.offset).run P w=.ok vs[f.offset] w:=by simp[part,run_isAgg hagg,hl]
       simp only[List.forIn_cons,ne_eq,hname,not_false_eq_true,if_true,Sem.run_bind,p1,Result.andThen_ok,run_checkSimple hu1 hu2,Sem.run_pure];exact ih ks' hall.2 (λp hp=>hlt p (List.mem_cons_of_mem _ hp)) h2
      ·cases h1
  ·simp only[eqkP,hu]at he;split at he
   ·rename_i hagg hsz;obtain⟨q,hq,hqs⟩:=Option.map_eq_some_iff.1 he;cases hqs;obtain⟨n',hn'⟩:∃n',n+1=n':=⟨_,rfl⟩
    rw[show n+2=n'+1 by rw[<-hn']];simp only[Instr.checkKey,Sem.run_bind,run_underlying hu,Result.andThen_ok];subst hn';simp only[Std.Legacy.Range.forIn_eq_forIn_range',Std.Legacy.Range.size,Nat.sub_zero,Nat.add_one_sub_one,Nat.div_one];simp only[List.length_map,List.length_range]at hlen;have hlt:∀i∈List.range' 0 m,i<vs.length:=λi hi=>by
     simp at hi;omega
    by_cases hm:m=0
    ·subst hm;simp
    ·have hsk:simpleK q=true:=List.all_eq_true.1 hall (0,q) (by simp;omega);obtain⟨u,hu1,hu2⟩:=eqkP_simple hq hsk
     clear hoff hlen hu he hkv hall hm
     generalize List.range' 0 m=L at hlt ⊢
     induction L with
     | nil=>simp
     | cons i L ih =>
      have hl:=hlt i (List.mem_cons_self ..);have p1:(part e ⟨vs⟩ i).run P w=.ok vs[i] w:=by simp[part,run_isAgg hagg,hl]
      simp only[List.forIn_cons,Sem.run_bind,run_sizeP hsz,Nat.mul_one,p1,Result.andThen_ok,run_checkSimple hu1 hu2,Sem.run_pure];exact ih (λp hp=>hlt p (List.mem_cons_of_mem _ hp))
   ·cases he
theorem findAsking_sound {t:TypeId}{ek:EqK}(he:eqkP P 8 t=some ek){k:AV}{kv:Value}(hkv:Rv S G w k kv):∀{es:List (AV×AV)} {ents:List MapEntry} {i:Nat} {r:Option (Nat×AV)},RlE S G w es ents->findK ek k es i=some r ->
  match r with
  | none=>(Instr.findAsking t kv ents i).run P w=.ok none w
  | some (j,x)=>∃v,Rv S G w x v/\(Instr.findAsking t kv ents i).run P w=.ok (some (j,v)) w/\i<=j/\∃k',es[j-i]? = some (k',x)/\eqv ek k k'=some true
 | [],_,i,r,hr,hf=>by
  simp only[RlE]at hr;subst hr;simp only[findK,oI]at hf;subst hf;rfl
 | (k',x)::es,_,i,r,hr,hf=>by
  obtain⟨e,ents',rfl,h1,h2,h3⟩:=hr;simp only[findK]at hf;split at hf
  ·rename_i hq;cases hf;refine⟨e.val,h2,?_,nR _,k',by simp,hq⟩;have:=eqv_sound w 8 he hq hkv h1 Op.maxDepth (by decide);simp only[Instr.findAsking,Op.equal,Sem.run_bind,this,Result.andThen_ok,if_true,Sem.run_pure]
  ·rename_i hq;have ih:=findAsking_sound he hkv h3 hf;have hs:=eqv_sound w 8 he hq hkv h1 Op.maxDepth (by decide);cases r with
   | none =>
    simp only at ih ⊢;simp only[Instr.findAsking,Op.equal,Sem.run_bind,hs,Result.andThen_ok,Bool.false_eq_true,if_false];exact ih
   | some p =>
    obtain⟨j,y⟩:=p;simp only at ih ⊢;obtain⟨v,g1,g2,g3,k2,g4,g5⟩:=ih;refine⟨v,g1,by simp only[Instr.findAsking,Op.equal,Sem.run_bind,hs,Result.andThen_ok,Bool.false_eq_true,if_false];exact g2,by omega,k2,?_,g5⟩;rw[show j-i=(j-(i+1))+1 by omega];simpa using g4
  ·cases hf
theorem findKey_sound {t:TypeId}{ek:EqK}(hk:keyK P t=some ek){k:AV}{kv:Value}(hkv:Rv S G w k kv){es:List (AV×AV)}{ents:List MapEntry}{r:Option (Nat×AV)}(hr:RlE S G w es ents)(hf:findK ek k es 0=some r) :
  match r with
  | none=>(Instr.findKey t kv ents).run P w=.ok none w
  | some (j,x)=>∃v,Rv S G w x v/\(Instr.findKey t kv ents).run P w=.ok (some (j,v)) w/\∃k',es[j]? = some (k',x)/\eqv ek k k'=some true:=by
 obtain⟨d,hu,hd⟩:=keyK_desc hk;by_cases hs:simpK ek
 ·have:=findNow_sound hk hs hu hkv hr hf;cases r with
  | none =>
   simp only at this ⊢;simp only[Instr.findKey,Sem.run_bind,run_underlying hu,Result.andThen_ok,this,Sem.run_pure]
  | some p =>
   obtain⟨j,x⟩:=p;simp only at this ⊢;obtain⟨v,g1,g2,_,k',g4,g5⟩:=this;exact⟨v,g1,by simp only[Instr.findKey,Sem.run_bind,run_underlying hu,Result.andThen_ok,g2,Sem.run_pure],k',by simpa using g4,g5⟩
 ·rcases hd with⟨_,rfl⟩ | ⟨_,_,rfl⟩ | ⟨_,rfl⟩ | ⟨fs,rfl,he,_,hd⟩
  ·exact absurd (λfs h=>by cases h) hs
  ·exact absurd (λfs h=>by cases h) hs
  ·exact absurd (λfs h=>by cases h) hs
  ·have h0:(Instr.findKey t kv ents).run P w=(Instr.findAsking t kv ents 0).run P w:=by
    cases ents with
    | nil=>simp only[Instr.findKey,Sem.run_bind,run_underlying hu,Result.andThen_ok,Instr.findNow,Instr.findAsking]
    | cons e ents =>
     have:Instr.findNow d kv (e::ents) 0=none:=by
      simp only[Instr.findNow];rcases hd with⟨l,rfl⟩ | ⟨m,e',rfl⟩<;>simp[Instr.sameNow]
     simp only[Instr.findKey,Sem.run_bind,run_underlying hu,Result.andThen_ok,this]
   have:=findAsking_sound he hkv hr hf;cases r with
   | none=>simp only at this ⊢;rw[h0];exact this
   | some p =>
    obtain⟨j,x⟩:=p;simp only at this ⊢;obtain⟨v,g1,g2,_,k',g4,g5⟩:=this;exact⟨v,g1,by rw[h0];exact g2,k',by simpa using g4,g5⟩
theorem run_getMap {b:Nat}{ents:Array MapEntry}{clk:Nat}(h:w.heap[b]? = some (.map ents clk)):(getObj b).run P w=.ok (.map ents clk) w:=by simp[getObj,Sem.run,h]
theorem so_lkp (h:Good P gt O S G w env a)(hd:∀d,o.dst=some d->O.N.ok d){t kt e:TypeId}{ek:EqK}{z:AV}{m k:Operand}{dm dk:DOpd}{ok:Bool}{tm tk:TypeId}(hop:o.op=.lookup t m k ok)(hu:P.underlying t=some (.map kt e))(hk:keyK P kt=some ek)(hz:elemC P e=some z)(hm:opdP P tm m=some dm)(hkk:opdP P tk k=some dk)
  (hs:stepO gt o.dst env S (.lkp ek z dm dk ok)=.done env' S'):OpOK P gt O o w a env' S':=by
 obtain⟨fb,hfr⟩:=h.fr;simp only[stepO]at hs;split at hs
 ·rename_i id ka hma hka;cases hkv:keyV ek ka with
  | false=>rw[hkv]at hs;cases hs
  | true =>
  rw[hkv]at hs;simp only[cond_true]at hs;split at hs
  ·rename_i es hes;have rm:=opd_sound hm hma hfr;have rk:=opd_sound hkk hka hfr;simp only[Rv]at rm;obtain⟨hid,rm⟩:=rm;obtain⟨es',ents,clk,e1,e2,e3⟩:=h.inv.map id hid;rw[hes]at e1;cases e1;obtain⟨zv,z1,z2⟩:=elemC_sound hz;have tup:∀{p:AV} {u:Value} {b:Bool},Rv S G w p u->Rv S G w (bif ok then .tup [p,.bool b] else p) (if ok then .tuple #[u,.bool b] else u):=λ{p u b} hp=>by
    cases ok
    ·exact hp
    ·simp only[cond_true,if_true,Rv];exact⟨_,rfl,Rl.cons hp (Rl.cons (by simp only[Rv]) Rl.nil)⟩
   split at hs
   ·rename_i i x hf;simp only[SR.done.injEq]at hs;obtain⟨rfl,rfl⟩:=hs;obtain⟨v,g1,g2,_⟩:=findKey_sound hk rk e3.1 hf;refine ok_val h hd (tup g1) ?_;simp only[execOp,hop,Instr.lookup,Sem.run_bind,run_underlying hu,Result.andThen_ok,rm,run_getMap e2,Sem.run_pure,run_checkKey hk hkv rk,g2]
   ·rename_i hf;simp only[SR.done.injEq]at hs;obtain⟨rfl,rfl⟩:=hs;have g2:=findKey_sound hk rk e3.1 hf;simp only at g2;refine ok_val h hd (tup (z2 S G w)) ?_;simp only[execOp,hop,Instr.lookup,Sem.run_bind,run_underlying hu,Result.andThen_ok,rm,run_getMap e2,Sem.run_pure,run_checkKey hk hkv rk,g2,z1]
   ·cases hs
  ·cases hs
 ·cases hs
theorem RlE.set:∀{es:List (AV×AV)} {ents:List MapEntry},RlE S G w es ents->∀(i:Nat) {k v:AV} {e:MapEntry},Rv S G w k e.key->Rv S G w v e.val->RlE S G w (es.set i (k,v)) (ents.set i e)
 | [],_,h,i,k,v,e,_,_=>by simp only[RlE]at h;subst h;simp[RlE]
 | (k',v')::r,_,h,i,k,v,e,hk,hv=>by
  obtain⟨e',es',rfl,h1,h2,h3⟩:=h;cases i with
  | zero=>exact⟨e,es',rfl,hk,hv,h3⟩
  | succ i=>exact⟨e',_,rfl,h1,h2,RlE.set h3 i hk hv⟩
theorem RlE.snoc:∀{es:List (AV×AV)} {ents:List MapEntry},RlE S G w es ents->∀{k v:AV} {e:MapEntry},Rv S G w k e.key->Rv S G w v e.val->RlE S G w (es++[(k,v)]) (ents++[e])
 | [],_,h,k,v,e,hk,hv=>by simp only[RlE]at h;subst h;exact⟨e,[],rfl,hk,hv,rfl⟩
 | (k',v')::r,_,h,k,v,e,hk,hv=>by
  obtain⟨e',es',rfl,h1,h2,h3⟩:=h;exact⟨e',_,rfl,h1,h2,RlE.snoc h3 hk hv⟩
theorem RlE.get:∀{es:List (AV×AV)} {ents:List MapEntry},RlE S G w es ents->∀{i:Nat} {k v:AV},es[i]? = some (k,v)->∃e,ents[i]? = some e/\Rv S G w k e.key/\Rv S G w v e.val
 | [],_,_,i,k,v,hx=>by simp at hx
 | (k',v')::r,_,h,i,k,v,hx=>by
  obtain⟨e',es',rfl,h1,h2,h3⟩:=h;cases i with
  | zero=>simp at hx;obtain⟨rfl,rfl⟩:=hx;exact⟨e',by simp,h1,h2⟩
  | succ i=>simp at hx;obtain⟨e,g1,g2⟩:=RlE.get h3 hx;exact⟨e,by simpa using g1,g2⟩
theorem sameBits_simple {ek:EqK}(hk:simpleK ek=true){x y:AV}{u v:Value}(he:eqv ek x y=some true)(hx:Rv S G w x u)(hy:Rv S G w y v)(n:Nat):Instr.sameBits n v u=true:=by
 cases ek<;>simp only[simpleK,Bool.false_eq_true]at hk
 ·simp only[eqv]at he;unfold eqBool at he;split at he
  ·simp only[oI,beq_iff_eq]at he;subst he;simp only[Rv]at hx hy;subst hx;subst hy;simp[Instr.sameBits]
  ·cases he
 ·simp only[eqv]at he;unfold eqInt at he;split at he
  ·split at he
   ·rename_i hkk;simp only[oI,beq_iff_eq]at he;subst he;subst hkk;simp only[Rv]at hx hy;subst hx;subst hy;simp[Instr.sameBits]
   ·cases he
  ·cases he
 ·simp only[eqv]at he;unfold eqStr at he;split at he
  ·rename_i s1 s2;simp only[oI,beqB_eq,beq_iff_eq]at he;subst he;simp only[Rv]at hx hy;subst hx;subst hy;simp only[Instr.sameBits,beq_toListBytes,beq_self_eq_true]
  ·cases he
theorem sameBits_all (n:Nat):∀{fs:List (Nat×EqK)} {c1 c2 d1 d2:List AV} {i:Nat} {v1 v2:List Value},(fs.all λp=>simpleK p.2)=true->keyFs fs d1 i=true->keyFs fs d2 i=true->c1.drop i=d1->c2.drop i=d2->eqvs fs c1 c2=some true->Rl S G w d1 v1->Rl S G w d2 v2 ->
  ((v2.zip v1).all λ(x,y)=>Instr.sameBits n x y)=true
 | [],c1,c2,[],[],i,v1,v2,_,_,_,_,_,_,h1,h2=>by
  simp only[Rl]at h1 h2;subst h1;subst h2;rfl
 | [],_,_,_::_,_,_,_,_,_,h,_,_,_,_,_,_=>by simp[keyFs]at h
 | [],_,_,[],_::_,_,_,_,_,_,h,_,_,_,_,_=>by simp[keyFs]at h
 | _::_,_,_,[],_,_,_,_,_,h,_,_,_,_,_,_=>by simp[keyFs]at h
 | _::_,_,_,_::_,[],_,_,_,_,_,h,_,_,_,_,_=>by simp[keyFs]at h
 | (o,k)::fs,c1,c2,x::d1,y::d2,i,v1,v2,hall,k1,k2,e1,e2,he,h1,h2=>by
  simp only[keyFs,bA]at k1 k2;simp only[List.all_cons,bA]at hall;have hoi:o=i:=bE k1.1;subst hoi;obtain⟨u1,r1,rfl,hu1,hr1⟩:=h1;obtain⟨u2,r2,rfl,hu2,hr2⟩:=h2;have x1:c1[o]? = some x:=by rw[<-List.head?_drop,e1];rfl
  have x2:c2[o]? = some y:=by rw[<-List.head?_drop,e2];rfl
  have t1:c1.drop (o+1)=d1:=by rw[<-List.tail_drop,e1];rfl
  have t2:c2.drop (o+1)=d2:=by rw[<-List.tail_drop,e2];rfl
  simp only[eqvs,x1,x2]at he;split at he
  ·rename_i hq;simp only[List.zip_cons_cons,List.all_cons,bA];exact⟨sameBits_simple hall.1 hq hu1 hu2 n,sameBits_all n hall.2 k1.2 k2.2 t1 t2 he hr1 hr2⟩
  ·cases he
  ·cases he
theorem sameBits_sound {t:TypeId}{ek:EqK}(hk:keyK P t=some ek){x y:AV}{u v:Value}(he:eqv ek x y=some true)(hvx:keyV ek x=true)(hvy:keyV ek y=true)(hx:Rv S G w x u)(hy:Rv S G w y v):Instr.sameBits 10000 v u=true:=by
 obtain⟨d',hu',hd⟩:=keyK_desc hk;rcases hd with⟨rfl,rfl⟩ | ⟨k,rfl,rfl⟩ | ⟨rfl,rfl⟩ | ⟨fs,rfl,_,hall,_⟩
 ·exact sameBits_simple rfl he hx hy _
 ·exact sameBits_simple rfl he hx hy _
 ·exact sameBits_simple rfl he hx hy _
 ·cases x<;>simp only[keyV,Bool.false_eq_true]at hvx
  cases y<;>simp only[keyV,Bool.false_eq_true]at hvy
  rename_i c1 c2;simp only[Rv]at hx hy;obtain⟨v1,rfl,r1⟩:=hx;obtain⟨v2,rfl,r2⟩:=hy;simp only[eqv,aggs]at he;have l1:=(keyFs_get hvx).1;have l2:=(keyFs_get hvy).1;have m1:=r1.length;have m2:=r2.length;simp only[Instr.sameBits,bA];refine⟨by simp;omega,?_⟩;exact sameBits_all _ hall hvx hvy rfl rfl he r1 r2
theorem RlE.same_length:∀{es:List (AV×AV)} {ents:List MapEntry},RlE S G w es ents->ents.length=es.length
 | [],_,h=>by simp only[RlE]at h;subst h;rfl
 | (k',v')::r,_,h=>by
  obtain⟨e',es',rfl,h1,h2,h3⟩:=h;simp[h3.same_length]
theorem Born.set {l:List MapEntry}{clk i:Nat}(h:Born l clk){e e':MapEntry}(he:l[i]? = some e)(hb:e'.born=e.born):Born (l.set i e') clk:=by
 refine⟨by rw[List.length_set];exact h.1,λj x hx=>?_⟩;rw[List.getElem?_set]at hx;split at hx
 ·rename_i hij;subst hij;split at hx
  ·cases hx;rw[hb];exact h.2 _ _ he
  ·cases hx
 ·exact h.2 _ _ hx
theorem Born.push {l:List MapEntry}{clk:Nat}(h:Born l clk){e:MapEntry}(hb:e.born=clk):Born (l++[e]) (clk+1):=by
 refine⟨by simp[h.1],λj x hx=>?_⟩;rcases Nat.lt_or_ge j l.length with hj | hj
 ·rw[List.getElem?_append_left hj]at hx;exact h.2 _ _ hx
 ·rw[List.getElem?_append_right hj]at hx;cases hjj:j-l.length with
  | zero=>rw[hjj]at hx;simp at hx;subst hx;rw[hb,h.1];omega
  | succ m=>rw[hjj]at hx;simp at hx
theorem modify_toList {ents:Array MapEntry}{i:Nat}{en:MapEntry}(hn:ents[i]? = some en)(f:MapEntry->MapEntry):(ents.modify i f).toList=ents.toList.set i (f en):=by
 have hi:i<ents.size:=by
  rcases Nat.lt_or_ge i ents.size with h' | h'
  ·exact h'
  ·rw[Array.getElem?_eq_none h']at hn;cases hn
 apply List.ext_getElem?
 intro j;rw[Array.getElem?_toList,Array.getElem?_modify,List.getElem?_set];by_cases e:i=j
 ·subst e;rw[if_pos rfl,if_pos rfl,if_pos (by simpa using hi),hn];rfl
 ·simp[e]
theorem so_mup (h:Good P gt O S G w env a)(hd:∀d,o.dst=some d->O.N.ok d){t kt e:TypeId}{ek:EqK}{m k x:Operand}{dm dk dx:DOpd}{tm tk tx:TypeId}(hop:o.op=.mapUpdate t m k x\/o.op=.insert t m k x)(hu:P.underlying t=some (.map kt e))(hk:keyK P kt=some ek)(hm:opdP P tm m=some dm)(hkk:opdP P tk k=some dk)(hx:opdP P tx x=some dx)
  (hs:stepO gt o.dst env S (.mup ek dm dk dx)=.done env' S'):OpOK P gt O o w a env' S':=by
 obtain⟨fb,hfr⟩:=h.fr;simp only[stepO]at hs;split at hs
 ·rename_i id ka xa hma hka hxa;cases hkv:keyV ek ka with
  | false=>rw[hkv]at hs;cases hs
  | true =>
  rw[hkv]at hs;simp only[cond_true]at hs;split at hs
  ·rename_i es hes;have rm:=opd_sound hm hma hfr;have rk:=opd_sound hkk hka hfr;have rx:=opd_sound hx hxa hfr;simp only[Rv]at rm;obtain⟨hid,rm⟩:=rm;obtain⟨es',ents,clk,e1,e2,e3⟩:=h.inv.map id hid;rw[hes]at e1;cases e1;have hrun:∀{w'},(Instr.mapUpdate t (a.eval m) (a.eval k) (a.eval x)).run P w=.ok () w'->(execOp a.eval o).run P w=.ok .skip w':=λ{w'} hq=>by
    rcases hop with hop | hop<;>simp[execOp,hop,hq]
   have hset:∀(o':Obj),(setObj (G.μ id) o').run P w=.ok () (wBlk w (G.μ id) o'):=λo'=>by simp[setObj,Sem.run,e2,wBlk]
   split at hs
   ·rename_i i x' hf;cases hka':keyAt ek es i with
    | false=>rw[hka']at hs;cases hs
    | true =>
    rw[hka']at hs;simp only[cond_true,SR.done.injEq]at hs;obtain⟨rfl,rfl⟩:=hs;obtain⟨v,g1,g2,k',g4,g5⟩:=findKey_sound hk rk e3.1 hf;simp only[keyAt,g4]at hka';obtain⟨en,n1,n2,n3⟩:=e3.1.get g4;have n1':ents[i]? = some en:=by simpa using n1
    have hr:RlM S G w (es.set i (ka,xa)) (ents.modify i λe=>{ e with key:=a.eval k,val:=a.eval x }) clk:=by
     refine⟨?_,?_⟩<;>rw[modify_toList n1']
     ·exact e3.1.set i rk rx
     ·exact Born.set e3.2 n1 rfl
    refine⟨_,G,.inr ⟨hrun (w':=wBlk w (G.μ id) (.map (ents.modify i λe=>{ e with key:=a.eval k,val:=a.eval x }) clk)) ?_,(h.step (Tr.mapSet (clk':=clk) h.inv hid e2 hr)).putV hd (by simp[Rv])⟩⟩;have hsb:=sameBits_sound hk g5 hkv hka' rk n2;simp only[Instr.mapUpdate,Sem.run_bind,run_underlying hu,Result.andThen_ok,rm,run_getMap e2,run_checkKey hk hkv rk,g2,Sem.run_pure,n1',Option.map_some,Option.getD_some,Instr.keyThatStays,hsb,if_true,hset]
   ·rename_i hf;simp only[SR.done.injEq]at hs;obtain⟨rfl,rfl⟩:=hs;have g2:=findKey_sound hk rk e3.1 hf;simp only at g2;have hr:RlM S G w (es++[(ka,xa)]) (ents.push { key:=a.eval k,val:=a.eval x,born:=clk }) (clk+1):=by
     refine⟨?_,?_⟩<;>rw[Array.toList_push]
     ·exact e3.1.snoc rk rx
     ·exact e3.2.push rfl
    refine⟨_,G,.inr ⟨hrun (w':=wBlk w (G.μ id) (.map (ents.push { key:=a.eval k,val:=a.eval x,born:=clk }) (clk+1))) ?_,(h.step (Tr.mapSet (clk':=clk+1) h.inv hid e2 hr)).putV hd (by simp[Rv])⟩⟩;simp only[Instr.mapUpdate,Sem.run_bind,run_underlying hu,Result.andThen_ok,rm,run_getMap e2,run_checkKey hk hkv rk,g2,Sem.run_pure,hset]
   ·cases hs
  ·cases hs
 ·cases hs
theorem so_mpe (h:Good P gt O S G w env a)(hd:∀d,o.dst=some d->O.N.ok d){t kt e:TypeId}{ek:EqK}{z:AV}{m k:Operand}{dm dk:DOpd}{tm tk:TypeId}(hop:o.op=.mapEntry t m k)(hu:P.underlying t=some (.map kt e))(hk:keyK P kt=some ek)(hz:elemC P e=some z)(hm:opdP P tm m=some dm)(hkk:opdP P tk k=some dk)
  (hs:stepO gt o.dst env S (.mpe ek z dm dk)=.done env' S'):OpOK P gt O o w a env' S':=by
 obtain⟨fb,hfr⟩:=h.fr;simp only[stepO]at hs;split at hs
 ·rename_i id ka hma hka;cases hkv:keyV ek ka with
  | false=>rw[hkv]at hs;cases hs
  | true =>
  rw[hkv]at hs;simp only[cond_true]at hs;split at hs
  ·rename_i es hes;have rm:=opd_sound hm hma hfr;have rk:=opd_sound hkk hka hfr;simp only[Rv]at rm;obtain⟨hid,rm⟩:=rm;obtain⟨es',ents,clk,e1,e2,e3⟩:=h.inv.map id hid;rw[hes]at e1;cases e1;obtain⟨zv,z1,z2⟩:=elemC_sound hz;have hrun:∀{v w'},(Instr.mapEntry t (a.eval m) (a.eval k)).run P w=.ok v w'->(execOp a.eval o).run P w=.ok (.value v) w':=λ{v w'} hq=>by
    simp[execOp,hop,hq]
   have hset:∀(o':Obj),(setObj (G.μ id) o').run P w=.ok () (wBlk w (G.μ id) o'):=λo'=>by simp[setObj,Sem.run,e2,wBlk]
   split at hs
   ·rename_i i x' hf;cases hka':keyAt ek es i with
    | false=>rw[hka']at hs;cases hs
    | true =>
    rw[hka']at hs;simp only[cond_true,SR.done.injEq]at hs;obtain⟨rfl,rfl⟩:=hs;obtain⟨v,g1,g2,k',g4,g5⟩:=findKey_sound hk rk e3.1 hf;simp only[keyAt,g4]at hka';obtain⟨en,n1,n2,n3⟩:=e3.1.get g4;have n1':ents[i]? = some en:=by simpa using n1
    have hborn:en.born=i:=e3.2.2 i en n1;have hr:RlM S G w (es.set i (ka,x')) (ents.modify i λe=>{ e with key:=a.eval k }) clk:=by
     refine⟨?_,?_⟩<;>rw[modify_toList n1']
     ·exact e3.1.set i rk n3
     ·exact Born.set e3.2 n1 rfl
    have htr:=Tr.mapSet (clk':=clk) h.inv hid e2 hr;refine⟨_,G,.inl ⟨.tuple #[v,.int .i64 i],hrun (w':=wBlk w (G.μ id) (.map (ents.modify i λe=>{ e with key:=a.eval k }) clk)) ?_,(h.step htr).putV hd ?_⟩⟩
    ·have hsb:=sameBits_sound hk g5 hkv hka' rk n2;simp only[Instr.mapEntry,Sem.run_bind,run_underlying hu,Result.andThen_ok,rm,run_getMap e2,run_checkKey hk hkv rk,g2,Sem.run_pure,n1',Option.map_some,Option.getD_some,Instr.keyThatStays,hsb,if_true,hset,hborn,goInt]
    ·simp only[Rv];exact⟨_,rfl,Rl.cons (g1.mono htr.ext) (Rl.cons (by simp only[Rv]) Rl.nil)⟩
   ·rename_i hf;simp only[SR.done.injEq]at hs;obtain⟨rfl,rfl⟩:=hs;have g2:=findKey_sound hk rk e3.1 hf;simp only at g2;have hr:RlM S G w (es++[(ka,z)]) (ents.push { key:=a.eval k,val:=zv,born:=clk }) (clk+1):=by
     refine⟨?_,?_⟩<;>rw[Array.toList_push]
     ·exact e3.1.snoc rk (z2 S G w)
     ·exact e3.2.push rfl
    have htr:=Tr.mapSet (clk':=clk+1) h.inv hid e2 hr;have hclk:clk=es.length:=by rw[e3.2.1,e3.1.same_length]
    refine⟨_,G,.inl ⟨.tuple #[zv,.int .i64 clk],hrun (w':=wBlk w (G.μ id) (.map (ents.push { key:=a.eval k,val:=zv,born:=clk }) (clk+1))) ?_,(h.step htr).putV hd ?_⟩⟩
    ·simp only[Instr.mapEntry,Sem.run_bind,run_underlying hu,Result.andThen_ok,rm,run_getMap e2,run_checkKey hk hkv rk,g2,z1,Sem.run_pure,hset,goInt]
    ·simp only[Rv];exact⟨_,rfl,Rl.cons (z2 _ _ _) (Rl.cons (by simp only[Rv];rw[hclk]) Rl.nil)⟩
   ·cases hs
  ·cases hs
 ·cases hs
theorem findIdx_born {l:List MapEntry}{clk i:Nat}(h:Born l clk)(hi:i<l.length):l.findIdx? (λe=>(e.born:Int) == (i:Int))=some i:=by
 rw[List.findIdx?_eq_some_iff_getElem];refine⟨hi,?_,λj hj=>?_⟩
 ·have:=h.2 i _ (gE hi);simp[this]
 ·have:=h.2 j _ (gE (by omega));simp[this];omega
theorem so_ens (h:Good P gt O S G w env a)(hd:∀d,o.dst=some d->O.N.ok d){t kt e:TypeId}{m s x:Operand}{dm ds dx:DOpd}{tm ts tx:TypeId}(hop:o.op=.entryStore t m s x)(_hu:P.underlying t=some (.map kt e))(hm:opdP P tm m=some dm)(hss:opdP P ts s=some ds)(hx:opdP P tx x=some dx)
  (hs:stepO gt o.dst env S (.ens dm ds dx)=.done env' S'):OpOK P gt O o w a env' S':=by
 obtain⟨fb,hfr⟩:=h.fr;simp only[stepO]at hs;split at hs
 ·rename_i id kd i xa hma hsa hxa;split at hs
  ·rename_i es hes;split at hs
   ·rename_i ka xo hei;simp only[SR.done.injEq]at hs;obtain⟨rfl,rfl⟩:=hs;have rm:=opd_sound hm hma hfr;have rs:=opd_sound hss hsa hfr;have rx:=opd_sound hx hxa hfr;simp only[Rv]at rm rs;obtain⟨hid,rm⟩:=rm;obtain⟨es',ents,clk,e1,e2,e3⟩:=h.inv.map id hid;rw[hes]at e1;cases e1;obtain⟨en,n1,n2,n3⟩:=e3.1.get hei;have n1':ents[i]? = some en:=by simpa using n1
    have hset:∀(o':Obj),(setObj (G.μ id) o').run P w=.ok () (wBlk w (G.μ id) o'):=λo'=>by simp[setObj,Sem.run,e2,wBlk]
    have hr:RlM S G w (es.set i (ka,xa)) (ents.modify i λe=>{ e with val:=a.eval x }) clk:=by
     refine⟨?_,?_⟩<;>rw[modify_toList n1']
     ·exact e3.1.set i n2 rx
     ·exact Born.set e3.2 n1 rfl
    have hil:i<ents.toList.length:=(List.getElem?_eq_some_iff.1 n1).1;have hfi:ents.findIdx? (λe=>(e.born:Int) == Int.ofNat i)=some i:=by
     have h0:=List.findIdx?_toArray (p:=λe:MapEntry=>(e.born:Int) == Int.ofNat i) (l:=ents.toList);rw[Array.toArray_toList]at h0;rw[h0];exact findIdx_born e3.2 hil
    refine⟨_,G,.inr ⟨?_,(h.step (Tr.mapSet (clk':=clk) h.inv hid e2 hr)).putV hd (by simp[Rv])⟩⟩;simp only[execOp,hop,Instr.entryStore,Sem.run_bind,rm,run_getMap e2,Result.andThen_ok,rs,asInt,asIntOf,Sem.run_pure,Sem.run_map,hfi,hset]
   ·cases hs
  ·cases hs
 ·cases hs
theorem Rat.ofCells {b es:Nat}:∀{xs:List AV} {us:List Value} {off:Nat},Rl S G w (xs.flatMap AV.cells) us->(∀x∈xs,x.cells.length=es)->(∀j,j<us.length->w.cell? ⟨b,off+j,none⟩=us[j]?)->Rat S G w b es xs off
 | [],_,_,_,_,_=>by simp[Rat]
 | x::xs,us,off,h,hl,hc=>by
  have hx:=hl x (by simp);simp only[List.flatMap_cons]at h;have hlen:=h.length;simp only[lA]at hlen;have h1:Rl S G w x.cells (us.take es):=by
   have:=h.take es;rw[List.take_append_of_le_length (by omega),List.take_of_length_le (by omega)]at this;exact this
  have h2:Rl S G w (xs.flatMap AV.cells) (us.drop es):=by
   have:=h.drop es;rw[<-hx,List.drop_left,hx]at this;exact this
  simp only[Rat];refine⟨?_,Rat.ofCells h2 (λy hy=>hl y (by simp[hy])) (λj hj=>?_)⟩
  ·have hv:∃v,Rv S G w x v/\v.cells.toList=us.take es:=by
    by_cases ha:∃cs,x=.agg cs
    ·obtain⟨cs,rfl⟩:=ha;exact⟨.agg ⟨us.take es⟩,by simp only[Rv];exact⟨_,rfl,h1⟩,rfl⟩
    ·have ha':∀cs,x≠.agg cs:=λcs e=>ha ⟨cs,e⟩;have hcx:x.cells=[x]:=by cases x<;>first | rfl | exact absurd rfl (ha' _)
     rw[hcx]at h1;simp only[Rl]at h1;obtain⟨v,r,hvr,hv,rfl⟩:=h1;exact⟨v,hv,by rw[Value.cells_of_not_agg (hv.not_agg ha'),hvr]⟩
   obtain⟨v,hv1,hv2⟩:=hv;refine⟨v,hv1,by rw[hv1.cells_size,hx],λj hj=>?_⟩;rw[hc j (by omega),<-Array.getElem?_toList,hv2,List.getElem?_take_of_lt hj]
  ·simp only[lD]at hj;rw[show off+es+j=off+(es+j) by omega,hc _ (by omega),List.getElem?_drop]
theorem Rat.cells {b es:Nat}:∀{xs:List AV} {off:Nat},Rat S G w b es xs off->(∀x∈xs,x.cells.length=es)/\∃us:List Value,Rl S G w (xs.flatMap AV.cells) us/\us.length=xs.length*es/\∀j,j<us.length->w.cell? ⟨b,off+j,none⟩=us[j]?
 | [],_,_=>⟨by simp,[],Rl.nil,by simp,λj hj=>by simp at hj⟩
 | x::xs,off,h=>by
  simp only[Rat]at h;obtain⟨⟨v,v1,v2,v3⟩,hra⟩:=h;obtain⟨hl,us,u1,u2,u3⟩:=hra.cells;refine⟨λy hy=>?_,v.cells.toList++us,by simp only[List.flatMap_cons];exact v1.cells.append u1,?_,λj hj=>?_⟩
  ·rcases List.mem_cons.1 hy with rfl | hy
   ·rw[<-v1.cells_size,v2]
   ·exact hl y hy
  ·simp only[lA,Array.length_toList,v2,u2,lC];rw[Nat.add_mul];omega
  ·by_cases hj':j<es
   ·rw[v3 j hj',List.getElem?_append_left (by simpa[v2] using hj')];simp
   ·rw[List.getElem?_append_right (by simp[v2];omega)];simp only[Array.length_toList,v2];rw[<-u3 (j-es) (by simp[v2]at hj;omega),show off+j=off+es+(j-es) by omega]
theorem cutAll_sound {agg:Bool}{es:Nat}{cs:List AV}{pre:List Value}(hr:Rl S G w cs pre):∀(n start:Nat) {xs:List AV},cutAll agg es cs start n=some xs ->
  xs.length=n/\(0<n->start+n*es<=cs.length)/\(∀x∈xs,x.cells.length=es)/\Rl S G w (xs.flatMap AV.cells) ((pre.drop start).take (n*es))
 | 0,start,xs,h=>by
  simp only[cutAll,oI]at h;subst h;simp[Rl]
 | n+1,start,xs,h=>by
  simp only[cutAll]at h;split at h
  ·rename_i x r h1 h2;simp only[oI]at h;subst h;obtain⟨c,hc,hm⟩:=Option.bind_eq_some_iff.1 h1;obtain⟨k1,k2,k3⟩:=hr.cut hc;obtain⟨g1,g2,g3,g4⟩:=cutAll_sound hr n (start+es) h2;have hxc:x.cells=c:=mkv_cells hm;refine⟨by simp[g1],λ_=>?_,?_,?_⟩
   ·by_cases h0:0<n
    ·have:=g2 h0;rw[Nat.add_mul];omega
    ·have:n=0:=by omega
     subst this;omega
   ·intro y hy;rcases List.mem_cons.1 hy with rfl | hy
    ·rw[hxc];exact k2
    ·exact g3 y hy
   ·simp only[List.flatMap_cons,hxc];have hsplit:(pre.drop start).take ((n+1)*es)=(pre.drop start).take es++(pre.drop (start+es)).take (n*es):=by
     rw[show (n+1)*es=es+n*es by rw[Nat.add_mul];omega,List.take_add,List.drop_drop]
    rw[hsplit];exact k3.append g4
  ·cases h
end

section
variable {P:Program}{gt:GT}{O:Orig}{S:St}{G:Gh}{w:World}{env env':Env}{a:Act}{S':St}{o:Oper}
theorem elems_sound (hI:Inv P gt S G w){agg:Bool}{es:Nat}{so:SI}{xs ys:List AV}{ad:Option Addr}{len cap:Nat}(he:elems S agg es so xs=some ys)(hsl:SlOK S G w es so xs.length ad len cap)(hrat:rd S so=.here->∀p,ad=some p->Rat S G w p.block es xs p.off) :
  ys.length=xs.length/\(∀y∈ys,y.cells.length=es)/\∃us:List Value,Rl S G w (ys.flatMap AV.cells) us/\us.length=len*es/\(∀p,ad=some p->0<cap->p.spot=none/\∀j,j<us.length->w.cell? ⟨p.block,p.off+j,none⟩=us[j]?):=by
 have hl:=hsl.1;subst hl;by_cases h0:xs=[]
 ·subst h0;have:ys=[]:=by
   unfold elems at he;split at he
   ·cases he;rfl
   ·split at he
    ·simp only[lN,cutAll,oI]at he;exact he.symm
    ·cases he
   ·cases he
  subst this;exact⟨rfl,by simp,[],Rl.nil,by simp,λp hp hc=>⟨(hsl.2.2.2.2.2 p hp hc).2.1,λj hj=>by simp at hj⟩⟩
 ·have hpos:0<xs.length:=List.length_pos_iff.2 h0;have hcap:0<cap:=by have:=hsl.2.1;omega
  cases ad with
  | none=>have:=hsl.2.2.2.2.1 rfl;omega
  | some p =>
   obtain⟨g1,g2,g3,g5⟩:=hsl.2.2.2.2.2 p rfl hcap;unfold elems at he;cases hr:rd S so with
   | here =>
    rw[hr]at he;cases he;obtain⟨k1,us,k2,k3,k4⟩:=(hrat hr p rfl).cells;exact⟨rfl,k1,us,k2,k3,λq hq _=>by cases hq;exact⟨g2,k4⟩⟩
   | box b boff =>
    rw[hr]at he g5;simp only at he g5;split at he
    ·rename_i ty cs hk;obtain⟨_,pre,rest,fr,sf,h2,_,h3⟩:=hI.boxCells hk;obtain⟨k1,k2,k3,k4⟩:=cutAll_sound h3 _ _ he;have hlen:=h3.length;have k2':=k2 hpos;refine⟨k1,k3,_,k4,by simp;omega,λq hq _=>?_⟩;cases hq;refine⟨g2,λj hj=>?_⟩;simp only[lT,lD]at hj;rw[g5.2.1,g5.2.2.1,show boff+so.off*es+j=boff+so.off*es+j from rfl,cell_pre h2 (by omega),List.getElem?_take_of_lt (by omega),List.getElem?_drop]
    ·cases he
   | no=>rw[hr]at he;cases he
theorem run_firstCells {es n:Nat}{ad:Option Addr}{len cap:Nat}{us:List Value}(hu:us.length=n*es)(hn:ad=none->us=[])(hc:∀p,ad=some p->us≠[]->p.spot=none/\∀j,j<us.length->w.cell? ⟨p.block,p.off+j,none⟩=us[j]?) :
  (Builtin.firstCells es n (.slice ad len cap)).run P w=.ok ⟨us⟩ w:=by
 cases ad with
 | none=>rw[hn rfl];rfl
 | some p =>
  simp only[Builtin.firstCells,<-hu];by_cases h0:us=[]
  ·subst h0;rfl
  ·obtain⟨h1,h2⟩:=hc p rfl h0;rw[addr_eta h1];exact run_ldC us h2
theorem growBy_le (n:Nat):∀(r c:Nat),c<=n+n / 4+1000->Builtin.growBy n r c<=n+n / 4+1000
 | 0,c,h=>h
 | r+1,c,h=>by
  simp only[Builtin.growBy];split
  ·exact h
  ·exact growBy_le n r _ (by omega)
theorem nextslicecap_le {n c:Nat}(h:c<n):Builtin.nextslicecap n c<=n+n / 4+1000:=by
 unfold Builtin.nextslicecap;split
 ·omega
 ·split
  ·omega
  ·exact growBy_le n 4 c (by omega)
theorem zeroCells_size (z:Array Value)(n:Nat):(Builtin.zeroCells z n).size=n*z.size:=by simp[Builtin.zeroCells]
theorem run_append_new {t u e:TypeId}{i:TypeInfo}{d:TypeDesc}{z:AV}{ad:Option Addr}{sLen sCap k:Nat}{x:Value}{ov nv:List Value}(ht:P.underlying t=some (.slice e))(hu:P.underlying u=some d)(hd:∀k,d≠.int k)(hi:P.info? e=some i)(hz:elemC P e=some z)(hzl:z.cells.length=i.size)
  (hlen:(Builtin.lenOf x).run P w=.ok k w) (hnew:∀w',Gr w w'->(Builtin.firstCells i.size k x).run P w'=.ok ⟨nv⟩ w') (hold:∀w',Gr w w'->(Builtin.firstCells i.size sLen (.slice ad sLen sCap)).run P w'=.ok ⟨ov⟩ w') (hbig:sCap<sLen+k)
  (hb1:(sLen+k)*i.bytes<=140737488355328) (hb2:sLen+k<=140737488355328) (hb3:i.bytes<=1048576) (ty:TypeId) :
  ∃(newCap:Nat) (rest:List Value) (w':World),sLen+k<=newCap/\rest.length=(newCap-(sLen+k))*i.size/\Gr w w'/\w'.heap=w.heap /\
   (Builtin.append_ #[t,u] ty #[.slice ad sLen sCap,x]).run P w=.ok (.slice (some ⟨w.heap.size,0,none⟩) (sLen+k) newCap) { w' with heap:=w'.heap.push (.cells ⟨ov++nv++rest⟩ e (0,0)) }:=by
 obtain⟨zv,z1,z2⟩:=elemC_sound hz;have hzs:zv.cells.size=i.size:=by
  have:=(z2 St.init ⟨id,id,id,id,id,λ_=>False⟩ default).cells_size;rw[this,hzl]
 have hsz:∀w,(sizeOf e).run P w=.ok i.size w:=λw=>by simp[sizeOf,typeInfo,hi]
 have hti:∀w,(typeInfo e).run P w=.ok i w:=λw=>by simp[typeInfo,hi]
 have hmax:¬(((sLen+k:Nat):Int) > IntKind.i64.max):=by
  have p63:(2:Int) ^ 63=9223372036854775808:=by decide
  have m:IntKind.i64.max=9223372036854775807:=by simp only[IntKind.max,IntKind.signed,IntKind.bits,if_true,Nat.reduceSub,p63];decide
  rw[m];omega
 have hcapb:¬(Builtin.nextslicecap (sLen+k) sCap*i.bytes > 2 ^ 48):=by
  have h1:=nextslicecap_le hbig;have h2:Builtin.nextslicecap (sLen+k) sCap*i.bytes<=((sLen+k)+(sLen+k) / 4+1000)*i.bytes:=Nat.mul_le_mul_right _ h1;have h3:((sLen+k)+(sLen+k) / 4+1000)*i.bytes=(sLen+k)*i.bytes+(sLen+k) / 4*i.bytes+1000*i.bytes:=by rw[Nat.add_mul,Nat.add_mul]
  have h5:(sLen+k) / 4*i.bytes<=(sLen+k)*i.bytes / 4:=by
   rw[Nat.le_div_iff_mul_le (by decide),Nat.mul_right_comm];exact Nat.mul_le_mul_right _ (Nat.div_mul_le_self _ _)
  have h4:(2:Nat) ^ 48=281474976710656:=by decide
  omega
 let q:Question:=.appendCap (sLen+k) sCap e
 let newCap:=q.cut (w.tape w.drawn q)
 have hge:sLen+k<=newCap:=by simp only[newCap,q,Question.cut];omega
 let w':World:={ w with drawn:=w.drawn+1 }
 have hg:Gr w w':=Gr.drew w _;refine⟨newCap,(Builtin.zeroCells zv.cells (newCap-(sLen+k))).toList,w',hge,by simp[zeroCells_size,hzs],hg,rfl,?_⟩;have hch:(choose q).run P w=.ok newCap w':=by simp[choose,Sem.run,q,Question.forced,newCap,w']
 have hroom:∀(b:Nat) (w:World),(askRoom b).run P w=.ok () w:=λb w=>by
  unfold askRoom;split<;>simp[mark,Sem.run]
 unfold Builtin.append_;simp only[List.getElem?_toArray,List.getElem?_cons_zero,List.getElem?_cons_succ,Sem.run_bind,run_underlying ht,Result.andThen_ok,hsz,run_underlying hu];simp only[Sem.run_pure,Result.andThen_ok,Bool.false_eq_true,if_false];rw[Sem.run_bind,hlen];simp only[Result.andThen_ok];rw[if_neg (by omega)];simp only[hti,Sem.run_bind,Result.andThen_ok,hmax,false_and,if_false,hcapb,hch,hroom,hold w' hg,Bool.not_false,if_true,hnew w' hg,z1,Sem.run_pure,q];simp[newRow,newObj,Sem.run,w'];refine⟨?_,rfl,rfl⟩;show w.heap.push _=w.heap.push _
 congr 2
 apply Array.ext'
 simp
theorem run_append_in {t u e:TypeId}{i:TypeInfo}{d:TypeDesc}{ad:Option Addr}{sLen sCap k:Nat}{x:Value}{nv:List Value}{w':World}(ht:P.underlying t=some (.slice e))(hu:P.underlying u=some d)(hd:∀k,d≠.int k)(hi:P.info? e=some i)
  (hlen:(Builtin.lenOf x).run P w=.ok k w) (hnew:(Builtin.firstCells i.size k x).run P w=.ok ⟨nv⟩ w) (hroom:sLen+k<=sCap)
  (hst:∀p,ad=some p->(storeCells (p.add (sLen*i.size)) nv).run P w=.ok () w') (hn:ad=none->w'=w) (ty:TypeId) :
  (Builtin.append_ #[t,u] ty #[.slice ad sLen sCap,x]).run P w=.ok (.slice ad (sLen+k) sCap) w':=by
 have hsz:∀w,(sizeOf e).run P w=.ok i.size w:=λw=>by simp[sizeOf,typeInfo,hi]
 unfold Builtin.append_;simp only[List.getElem?_toArray,List.getElem?_cons_zero,List.getElem?_cons_succ,Sem.run_bind,run_underlying ht,Result.andThen_ok,hsz,run_underlying hu];simp only[Sem.run_pure,Result.andThen_ok,Bool.false_eq_true,if_false];rw[Sem.run_bind,hlen];simp only[Result.andThen_ok];rw[if_pos hroom];simp only[Bool.not_false,if_true,Sem.run_bind,hnew,Result.andThen_ok];cases ad with
 | none=>rw[hn rfl];rfl
 | some p=>simp only[Sem.run_bind,hst p rfl,Result.andThen_ok,Sem.run_pure]
theorem ofBytes_Rl (s:List UInt8):Rl S G w (ofBytes s) (s.map λb=>.int .u8 b.toNat):=by
 induction s with
 | nil=>exact Rl.nil
 | cons b s ih=>exact Rl.cons (by simp[Rv]) ih
theorem ofBytes_cells (s:List UInt8):(ofBytes s).flatMap AV.cells=ofBytes s:=by
 induction s with
 | nil=>rfl
 | cons b s ih =>
  simp only[ofBytes,List.map_cons,List.flatMap_cons,AV.cells,List.singleton_append]at ih ⊢;rw[ih]
theorem src_sound (hI:Inv P gt S G w){agg:Bool}{es:Nat}{y:AV}{yv:Value}(hy:Rv S G w y yv){ys:List AV}
  (h:srcE S agg es y=some ys) :
  (∀y∈ys,y.cells.length=es)/\(∀w,(Builtin.lenOf yv).run P w=.ok ys.length w)/\∃nv:List Value,Rl S G w (ys.flatMap AV.cells) nv/\nv.length=ys.length*es/\∀w',Gr w w'->(Builtin.firstCells es ys.length yv).run P w'=.ok ⟨nv⟩ w':=by
 unfold srcE at h;split at h
 ·rename_i es'' o' zs;cases hb:Nat.beq es'' es with
  | false=>rw[hb]at h;cases h
  | true =>
   rw[hb]at h;have hb:=bE hb;subst hb;simp only[cond_true]at h;have hy':=hy;simp only[Rv]at hy';obtain⟨ad,len,cap,rfl,hsl,hrat⟩:=hy';obtain⟨k1,k2,us,k3,k4,k5⟩:=elems_sound hI h hsl hrat;have hl:=hsl.1;refine⟨k2,λw=>by simp[Builtin.lenOf,hl,k1],us,k3,by rw[k4,hl,k1],λw' hg=>?_⟩;have hun:ad=none->us=[]:=λe=>by
    have h1:=hsl.2.2.2.2.1 e;have h2:=hsl.2.1;have:us.length=0:=by rw[k4,show len=0 by omega];simp
    exact List.length_eq_zero_iff.1 this
   refine run_firstCells (by rw[k4,hl,k1]) hun (λp hp h0=>?_);have hc:0<cap:=by
    have h2:=hsl.2.1;rcases Nat.eq_zero_or_pos cap with e | e
    ·exact absurd (List.length_eq_zero_iff.1 (by rw[k4,show len=0 by omega];simp)) h0
    ·exact e
   obtain⟨g1,g2⟩:=k5 p hp hc;refine⟨g1,λj hj=>?_⟩;rw[<-g2 j hj];obtain⟨_,_,⟨ty,k,g3,_⟩,_⟩:=hsl.2.2.2.2.2 p hp hc;simp only[World.cell?,hg.same _ (shape_lt g3)]
 ·rename_i s;cases hb:Nat.beq es 1 with
  | false=>rw[hb]at h;cases h
  | true =>
   rw[hb]at h;have hb:=bE hb;subst hb;simp only[cond_true,oI]at h;subst h;simp only[Rv]at hy;subst hy;refine⟨λy hy=>?_,λw=>by simp[Builtin.lenOf,ofBytes,ByteArray.size],_,by rw[ofBytes_cells];exact ofBytes_Rl s,by simp[ofBytes],λw' _=>?_⟩
   ·simp only[ofBytes,List.mem_map]at hy;obtain⟨b,_,rfl⟩:=hy;rfl
   ·simp only[Builtin.firstCells,Sem.run_pure]
    congr 1
    apply Array.ext'
    simp[ofBytes,ByteArray.data_extract]
 ·cases h
theorem so_app (h:Good P gt O S G w env a)(hd:∀d,o.dst=some d->O.N.ok d){c:Call}{t u e:TypeId}{dd:TypeDesc}{i:TypeInfo}{agg:Bool}{z:AV}{x y:Operand}{dx dy:DOpd}(hop:o.op=.call c)(hc:c.callee=.builtin .append)(ht:c.argTypes = #[t,u])(ha:c.args = #[x,y])
  (hu:P.underlying t=some (.slice e)) (hu2:P.underlying u=some dd) (hdd:∀k,dd≠.int k) (hi:P.info? e=some i) (hz:elemC P e=some z) (hzl:z.cells.length=i.size) (hx:opdP P t x=some dx) (hy:opdP P u y=some dy)
  (hs:stepO gt o.dst env S (.app agg e i.size i.bytes dx dy)=.done env' S'):OpOK P gt O o w a env' S':=by
 obtain⟨fb,hfr⟩:=h.fr;have hrunB:∀{v:Value} {w':World},(Builtin.append_ #[t,u] o.type #[a.eval x,a.eval y]).run P w=.ok v w'->(execOp a.eval o).run P w=.ok (.value v) w':=λhq =>
  run_builtin hop hc (λcs=>rfl) (by rw[ht,ha];simpa using hq)
 simp only[stepO]at hs;split at hs
 ·rename_i xa ya hxa hya;split at hs
  ·rename_i v S1 happ;simp only[SR.done.injEq]at hs;obtain⟨rfl,rfl⟩:=hs;have rx:=opd_sound hx hxa hfr;have ry:=opd_sound hy hya hfr;unfold appV at happ;split at happ
   ·rename_i es' so xs;have rx0:=rx;simp only[Rv]at rx;obtain⟨ad,len,cap,hv,hsl,hrat⟩:=rx;have hl:=hsl.1;subst hl;split at happ
    ·-- nothing is appended
     rename_i hnew hel;cases happ;obtain⟨_,s2,nv,s3,s4,s5⟩:=src_sound (es:=i.size) h.inv ry hnew;have hnv:nv=[]:=List.length_eq_zero_iff.1 (by rw[s4];simp);subst hnv;refine ok_val h hd rx0 (hrunB ?_);rw[hv];have:=run_append_in (P:=P) (w:=w) (w':=w) (t:=t) (u:=u) (ad:=ad) (sLen:=xs.length) (sCap:=cap) (nv:=[]) hu hu2 hdd hi (s2 w) (s5 w (Gr.refl w)) (by have:=hsl.2.1;simpa using this) (λp _=>rfl) (λ_=>rfl) o.type;simpa using this
    ·rename_i y0 ys xs' hnew hel;cases hb:(Nat.beq es' i.size && (Nat.ble ((xs.length+(y0::ys).length)*i.bytes) 140737488355328 && (Nat.ble (xs.length+(y0::ys).length) 140737488355328 && (Nat.ble i.bytes 1048576 && Nat.blt 0 i.size)))) with
     | false=>rw[hb]at happ;cases happ
     | true =>
     rw[hb]at happ;simp only[cond_true]at happ;simp only[bA]at hb;obtain⟨b1,b2,b3,b4,b5⟩:=hb;have b1:=bE b1;subst b1;have b2:=bL b2;have b3:=bL b3;have b4:=bL b4;have b5:=blt_lt b5;obtain⟨s1,s2,nv,s3,s4,s5⟩:=src_sound (es:=i.size) h.inv ry hnew;obtain⟨t1,t2,ov,t3,t4,t5⟩:=elems_sound h.inv hel hsl hrat;have hle:=hsl.2.1;have hold:∀w',Gr w w'->(Builtin.firstCells i.size xs.length (.slice ad xs.length cap)).run P w'=.ok ⟨ov⟩ w':=λw' hg =>
      run_firstCells t4 (λe0=>List.length_eq_zero_iff.1 (by rw[t4,show xs.length=0 by have:=hsl.2.2.2.2.1 e0;omega];simp)) (λp hp h0=>by
       have hcp:0<cap:=by
        rcases Nat.eq_zero_or_pos cap with e | e
        ·exact absurd (List.length_eq_zero_iff.1 (by rw[t4,show xs.length=0 by omega];simp)) h0
        ·exact e
       obtain⟨g1,g2⟩:=t5 p hp hcp;refine⟨g1,λj hj=>?_⟩;rw[<-g2 j hj];obtain⟨_,_,⟨ty,k,g3,_⟩,_⟩:=hsl.2.2.2.2.2 p hp hcp;simp only[World.cell?,hg.same _ (shape_lt g3)])
     have hsz:sizeP P e=some i.size:=by simp[sizeP,hi]
     have hcells:Rl S G w ((xs'++y0::ys).flatMap AV.cells) (ov++nv):=by rw[List.flatMap_append];exact t3.append s3
     have hall:∀q∈xs'++y0::ys,q.cells.length=i.size:=λq hq=>by
      rcases List.mem_append.1 hq with hq | hq
      ·exact t2 q hq
      ·exact s1 q hq
     have hlen2:(xs'++y0::ys).length=xs.length+(y0::ys).length:=by simp[t1]
     have newcase:∀{l:Nat} {tip':List (Nat×Option (Nat×TypeId×Bool))} {sf:Bool},cap<xs.length+(y0::ys).length->l<S.nt+1->(l=S.nt\/lk S.dl l=none) ->
       (∀t y,lk tip' t=some (some y)->lk S.tip t=some (some y))->(∀t,S.nt+1<=t->lk tip' t=none) ->
       OpOK P gt O o w a (putV o.dst (.sl i.size ⟨some (S.nt,l),0,none,false⟩ (xs'++y0::ys)) env) { S with nt:=S.nt+1,tip:=(S.nt,some (xs.length+(y0::ys).length,e,sf))::tip' }:=by
      intro l tip' sf hbig hlt hdl ht' hk';obtain⟨newCap,rest,w1,q1,q2,q3,q4,q5⟩:=run_append_new (P:=P) (w:=w) (t:=t) (u:=u) (ad:=ad) (sLen:=xs.length) (sCap:=cap) hu hu2 hdd hi hz hzl (s2 w) s5 hold hbig b2 b3 b4 o.type;have h1:=h.step (Tr.gr h.inv q3);have hsize:w1.heap.size=w.heap.size:=by rw[q4]
      have hcs:(xs.length+(y0::ys).length)*i.size<=(⟨ov++nv++rest⟩:Array Value).size:=by
       simp only[List.size_toArray,lA,t4,s4];rw[Nat.add_mul];omega
      have htr:=Tr.newTok (sf:=sf) (c:=⟨ov++nv++rest⟩) (fr:=(0,0)) (l:=l) h1.inv hsz hcs (.inl rfl) hlt ht' hk';have h2:=h1.step htr;refine⟨_,_,.inl ⟨_,hrunB (by rw[hv];exact q5),h2.putV hd ?_⟩⟩;have hext:=(Tr.gr h.inv q3).ext.trans htr.ext;have hrl:=hcells.mono hext;simp only[Rv];have hnb:∀j,j<(ov++nv).length->({ w1 with heap:=w1.heap.push (.cells ⟨ov++nv++rest⟩ e (0,0)) }:World).cell? ⟨w.heap.size,0+j,none⟩=(ov++nv)[j]?:=λj hj=>by
       simp only[World.cell?,<-hsize,Array.getElem?_push_size,Nat.zero_add];simp[List.getElem?_append_left hj,aA];rw[<-aA,List.getElem?_append_left (by simpa using hj)]
      refine⟨some ⟨w.heap.size,0,none⟩,_,_,rfl,⟨hlen2.symm,q1,by simp,λc hc=>by simp at hc,λhc=>(by cases hc),λp hp hc=>?_⟩,λ_ p hp=>?_⟩
      ·cases hp;refine⟨b5,rfl,⟨e,(⟨ov++nv++rest⟩:Array Value).size,?_,?_⟩,?_⟩
       ·simp only[World.shape?,<-hsize,Array.getElem?_push_size]
       ·simp only[List.size_toArray,lA,t4,s4,q2,Nat.zero_add];rw[<-Nat.add_mul,<-Nat.add_mul];exact Nat.mul_le_mul_right _ (by omega)
       ·have hr:rd { S with nt:=S.nt+1,tip:=(S.nt,some (xs.length+(y0::ys).length,e,sf))::tip' } ⟨some (S.nt,l),0,none,false⟩=.here:=by
         unfold rd;simp only[h.inv.kMv S.nt (nR _)];rcases hdl with rfl | hdl
         ·simp only[h.inv.kDl S.nt (nR _)]
         ·simp only[hdl]
        rw[hr];simp only[upd_same,<-hsize];exact⟨Nat.lt_succ_self _,trivial,trivial,by simp,by simp⟩
      ·cases hp;exact Rat.ofCells hrl hall hnb
     split at happ
     ·-- the capacity is known
      rename_i cp hcp;cases hbc:Nat.ble (xs.length+(y0::ys).length) cp with
      | true =>
       rw[hbc]at happ;simp only[cond_true]at happ;have hfit:=bL hbc;have hce:=hsl.2.2.2.1 cp hcp;subst hce;split at happ
       ·rename_i b boff hrd;split at happ
        ·rename_i ty' bc hbk;cases hbt:(((y0::ys).flatMap AV.cells).all ok1 && Nat.ble (boff+(so.off+xs.length)*i.size+((y0::ys).flatMap AV.cells).length) bc.length) with
         | false=>rw[hbt]at happ;cases happ
         | true =>
          rw[hbt]at happ;simp only[cond_true,oI,Prod.mk.injEq]at happ;obtain⟨rfl,rfl⟩:=happ;simp only[bA]at hbt;have hcap:0<cap:=by simp only[lC]at hfit;omega
          cases ad with
          | none=>have:=hsl.2.2.2.2.1 rfl;omega
          | some p =>
          obtain⟨g1,g2,g3,g5⟩:=hsl.2.2.2.2.2 p rfl hcap;rw[hrd]at g5;obtain⟨e1,e2,e3,e4⟩:=g5;obtain⟨w',k1,k2⟩:=stBox_tr h.inv hbk (bL hbt.2) s3 hbt.1;have hpa:p.add (xs.length*i.size)=⟨G.β b,boff+(so.off+xs.length)*i.size,none⟩:=by
           obtain⟨pb,po,ps⟩:=p;simp only at g2 e2 e3;subst g2;subst e2;subst e3;rw[add_none,Nat.add_mul];simp;omega
          have hrun2:=run_append_in (P:=P) (w:=w) (t:=t) (u:=u) (ad:=some p) (sLen:=xs.length) (sCap:=cap) (nv:=nv) hu hu2 hdd hi (s2 w) (s5 w (Gr.refl w)) hfit (λq hq=>by cases hq;rw[hpa];exact k1) (λe0=>by cases e0) o.type;refine⟨_,_,.inl ⟨_,hrunB (by rw[hv];exact hrun2),(h.step k2).putV hd ?_⟩⟩;have hm:=hsl.mono k2.ext;have hrd':rd { S with boxes:=(b,some (ty',splice bc (boff+(so.off+xs.length)*i.size) ((y0::ys).flatMap AV.cells)))::S.boxes } so=.box b boff:=hrd;simp only[Rv];refine⟨some p,_,_,rfl,⟨hlen2.symm,hfit,hm.2.2.1,hm.2.2.2.1,hm.2.2.2.2.1,λq hq hc=>?_⟩,λhr=>by rw[hrd']at hr;cases hr⟩;cases hq;obtain⟨m1,m2,m3,m4⟩:=hm.2.2.2.2.2 p rfl hcap;refine⟨m1,m2,m3,?_⟩;rw[hrd']at m4 ⊢;exact m4
        ·cases happ
       ·cases happ
      | false =>
       rw[hbc]at happ;simp only[cond_false,oI,Prod.mk.injEq]at happ;obtain⟨rfl,rfl⟩:=happ;have hce:=hsl.2.2.2.1 cp hcp;have:¬(xs.length+(y0::ys).length<=cp):=λhq=>by rw[Nat.ble_eq_true_of_le hq]at hbc;cases hbc
       exact newcase (l:=S.nt) (tip':=S.tip) (by omega) (Nat.lt_succ_self _) (.inl rfl) (λ_ _ hq=>hq) (λt ht0=>h.inv.kTip t (by omega))
     ·rename_i hcn;split at happ
      ·rename_i tk ln htk hrd;split at happ
       ·rename_i m ty' sf htip;cases hbt:(Nat.beq ty' e && (Nat.beq m xs.length && (Nat.beq so.off 0 && (Nat.ble ln S.nt && ((y0::ys).flatMap AV.cells).all ok1)))) with
        | false=>rw[hbt]at happ;cases happ
        | true =>
         rw[hbt]at happ;simp only[cond_true,oI,Prod.mk.injEq]at happ;obtain⟨rfl,rfl⟩:=happ;simp only[bA]at hbt;obtain⟨c1,c2,c3,c5,c4⟩:=hbt;have c5:=bL c5;have c1:=bE c1;have c2:=bE c2;have c3:=bE c3;have c1:=c1.symm;subst c1;subst c2;have hmd:lk S.mv tk=none/\lk S.dl ln=none:=by
          unfold rd at hrd;simp only[htk]at hrd;cases hm:lk S.mv tk with
          | some m=>rw[hm]at hrd;cases m;simp at hrd
          | none =>
           rw[hm]at hrd;simp only at hrd;cases hdd':lk S.dl ln with
           | some u=>rw[hdd']at hrd;cases hrd
           | none=>exact⟨rfl,rfl⟩
         by_cases hbig:cap<xs.length+(y0::ys).length
         ·refine newcase (l:=ln) (tip':=(tk,none)::S.tip) (sf:=sf) hbig (by omega) (.inr hmd.2) (λt y hq=>?_) (λt ht0=>?_)
          ·by_cases e':tk=t
           ·subst e';rw[lk_same]at hq;cases hq
           ·rw[lk_ne _ _ e']at hq;exact hq
          ·have:=(h.inv.tip tk _ _ _ htip).1;rw[lk_ne _ _ (by omega)];exact h.inv.kTip t (by omega)
         ·have hcap:0<cap:=by simp only[lC]at hbig;omega
          have hbig:xs.length+(y0::ys).length<=cap:=by omega
          have hxs:xs'=xs:=by
           unfold elems at hel;rw[hrd]at hel;simpa using hel.symm
          subst hxs;cases ad with
          | none=>have:=hsl.2.2.2.2.1 rfl;omega
          | some p =>
          obtain⟨g1,g2,⟨tyb,kb,g3,g4⟩,g5⟩:=hsl.2.2.2.2.2 p rfl hcap;rw[hrd]at g5;simp only[htk]at g5;obtain⟨e1,e2,e3,e4,e5⟩:=g5;have hvl:Vld S G tk:=⟨hmd.1,by rw[e2];exact hmd.2⟩
          obtain⟨_,ht2⟩:=h.inv.tip tk _ _ _ htip;obtain⟨es0,cc,fr,k1,k2,k3,k4,k5⟩:=ht2 hvl;rw[hsz]at k1;cases k1;have hq0:p.off=0:=by rw[e4,c3];simp
          have hkb:kb=cc.size:=by
           rw[<-e3]at g3;simp only[World.shape?,k2,oI,Prod.mk.injEq]at g3;exact g3.2.symm
          subst hkb;have hfit:(xs'.length+(y0::ys).length)*i.size<=cc.size:=by
           have:(xs'.length+(y0::ys).length)*i.size<=cap*i.size:=Nat.mul_le_mul_right _ hbig;omega
          have hfit2:=hfit;rw[Nat.add_mul]at hfit2;obtain⟨cl⟩:=cc;simp only[List.size_toArray]at hfit hfit2 k4 k5;have hrun:=run_stC P (G.τ tk) (xs'.length*i.size) e fr nv 0 cl w k2 (by rw[s4];omega) (λk hk=>k5.free hk) (s3.one c4);rw[Nat.add_zero]at hrun;have hspl:=spl_length (l:=cl) (off:=xs'.length*i.size) (new:=nv) (by rw[s4];omega);have hget:=spl_get (l:=cl) (off:=xs'.length*i.size) (new:=nv) (by rw[s4];omega);have htr:=Tr.inPlace (n:=xs'.length+(y0::ys).length) (c':=⟨spl cl (xs'.length*i.size) nv⟩) h.inv htip hvl hsz k2 (by simpa using hspl) (by omega) (by simpa using hfit) (λj hj=>by
           simp only[List.getElem?_toArray];rw[hget,if_pos hj])
          have h2:=h.step htr;have hpa:p.add (xs'.length*i.size)=⟨G.τ tk,xs'.length*i.size,none⟩:=by
           obtain⟨pb,po,ps⟩:=p;simp only at g2 e3 hq0;subst g2;subst e3;subst hq0;rw[add_none];simp
          have hrun2:=run_append_in (P:=P) (w:=w) (t:=t) (u:=u) (ad:=some p) (sLen:=xs'.length) (sCap:=cap) (nv:=nv) hu hu2 hdd hi (s2 w) (s5 w (Gr.refl w)) hbig (λq hq=>by cases hq;rw[hpa];exact hrun) (λe0=>by cases e0) o.type;refine⟨_,_,.inl ⟨_,hrunB (by rw[hv];exact hrun2),h2.putV hd ?_⟩⟩;have hext:=htr.ext;have hrl:=hcells.mono hext;have hlt:=lt_of_some k2;have hnb:∀j,j<(ov++nv).length->(wBlk w (G.τ tk) (.cells ⟨spl cl (xs'.length*i.size) nv⟩ e fr)).cell? ⟨p.block,0+j,none⟩=(ov++nv)[j]?:=λj hj=>by
           simp only[World.cell?,<-e3,wBlk_same _ hlt,Nat.zero_add,List.getElem?_toArray];rw[hget];simp only[Option.isSome_none,Bool.false_eq_true,if_false];by_cases hj1:j<xs'.length*i.size
           ·rw[if_pos hj1,List.getElem?_append_left (by omega)];have:=(t5 p rfl hcap).2 j (by omega);rw[hq0,Nat.zero_add,<-e3]at this;rw[<-this];simp[World.cell?,k2]
           ·have hj2:=hj;rw[lA]at hj2;rw[if_neg hj1,List.getElem?_append_right (by omega),if_pos (by omega),t4]
          simp only[Rv];refine⟨some p,_,_,rfl,⟨hlen2.symm,hbig,by simp,λc hc=>by simp at hc,λhc=>(by cases hc),λq hq hc=>?_⟩,λ_ q hq=>?_⟩
          ·cases hq;refine⟨b5,g2,⟨e,cl.length,?_,by simpa using g4⟩,?_⟩
           ·simp only[World.shape?,<-e3,wBlk_same _ hlt,List.size_toArray,hspl]
           ·have hr:rd { S with nt:=S.nt+1,tip:=(S.nt,some (xs'.length+(y0::ys).length,e,sf))::(tk,none)::S.tip } ⟨some (S.nt,ln),0,none,false⟩=.here:=by
             unfold rd;simp only[h.inv.kMv S.nt (nR _),hmd.2]
            rw[hr];simp only[upd_same,<-e3];exact⟨Nat.lt_succ_self _,e2,trivial,by rw[hq0];simp,by rw[hq0];simp⟩
          ·cases hq;rw[hq0];exact Rat.ofCells hrl hall hnb
       ·cases happ
      ·cases happ
    ·cases happ
   ·cases happ
  ·cases hs
 ·cases hs
end

section
variable {P:Program}{gt:GT}{O:Orig}{S:St}{G:Gh}{w:World}{env env':Env}{a:Act}{S':St}{o:Oper}
theorem newTok_slice (hI:Inv P gt S G w){e:TypeId}{es cap:Nat}{xs:List AV}{us rest:List Value}{sf:Bool}{fr:Nat×Nat}{capO:Option Nat}
  (hsz:sizeP P e=some es) (he:0<es) (hr:Rl S G w (xs.flatMap AV.cells) us) (hall:∀q∈xs,q.cells.length=es) (hrest:us.length+rest.length=cap*es) (hle:xs.length<=cap)
  (hul:us.length=xs.length*es) (hf:okFr fr (us++rest).length sf) (hcap:∀c,capO=some c->cap=c) :
  ∃G',Tr P gt S G w { S with nt:=S.nt+1,tip:=(S.nt,some (xs.length,e,sf))::S.tip } G' { w with heap:=w.heap.push (.cells ⟨us++rest⟩ e fr) } /\
   Rv { S with nt:=S.nt+1,tip:=(S.nt,some (xs.length,e,sf))::S.tip } G' { w with heap:=w.heap.push (.cells ⟨us++rest⟩ e fr) } (.sl es ⟨some (S.nt,S.nt),0,capO,false⟩ xs) (.slice (some ⟨w.heap.size,0,none⟩) xs.length cap):=by
 have htr:=Tr.newTok (sf:=sf) (n:=xs.length) (c:=⟨us++rest⟩) (fr:=fr) (l:=S.nt) (tip':=S.tip) hI hsz (by simp;omega) (by simpa using hf) (Nat.lt_succ_self _) (λ_ _ h=>h) (λt ht=>hI.kTip t (by omega));refine⟨_,htr,?_⟩;have hrl:=hr.mono htr.ext;simp only[Rv];have hnb:∀j,j<us.length->({ w with heap:=w.heap.push (.cells ⟨us++rest⟩ e fr) }:World).cell? ⟨w.heap.size,0+j,none⟩=us[j]?:=λj hj=>by
  simp only[World.cell?,Array.getElem?_push_size,Nat.zero_add];simp[List.getElem?_append_left hj]
 refine⟨some ⟨w.heap.size,0,none⟩,_,_,rfl,⟨rfl,hle,by simp,hcap,λhc=>(by cases hc),λp hp hc=>?_⟩,λ_ p hp=>?_⟩
 ·cases hp;refine⟨he,rfl,⟨e,(⟨us++rest⟩:Array Value).size,?_,?_⟩,?_⟩
  ·simp only[World.shape?,Array.getElem?_push_size]
  ·simp only[List.size_toArray,lA,Nat.zero_add];omega
  ·have hrd:rd { S with nt:=S.nt+1,tip:=(S.nt,some (xs.length,e,sf))::S.tip } ⟨some (S.nt,S.nt),0,capO,false⟩=.here:=by
    unfold rd;simp only[hI.kMv S.nt (nR _),hI.kDl S.nt (nR _)]
   rw[hrd];simp only[upd_same];exact⟨Nat.lt_succ_self _,trivial,trivial,by simp,by simp⟩
 ·cases hp;exact Rat.ofCells hrl hall hnb
theorem mod_flat (zs:List Value){es:Nat}(hz:zs.length=es):∀n,(List.range (n*es)).map (λj=>(⟨zs⟩:Array Value)[j % es]!)=(List.replicate n zs).flatten
 | 0=>by simp
 | n+1=>by
  rw[Nat.add_mul,Nat.one_mul,List.range_add,List.map_append,mod_flat zs hz n,List.replicate_succ',List.flatten_append]
  congr 1
  simp only[List.map_map,List.flatten_cons,List.flatten_nil,List.append_nil];apply List.ext_getElem?
  intro j;by_cases hj:j<es
  ·have hm:(n*es+j) % es=j:=by rw[Nat.mul_comm,Nat.mul_add_mod,Nat.mod_eq_of_lt hj]
   simp[List.getElem?_range hj,hm,getElem!_pos,hz,hj]
  ·rw[List.getElem?_eq_none (by simp;omega),List.getElem?_eq_none (by omega)]
theorem rep_Rl {z:AV}{zs:List Value}(h:Rl S G w z.cells zs):∀n,Rl S G w ((List.replicate n z).flatMap AV.cells) (List.replicate n zs).flatten
 | 0=>by simpa using Rl.nil
 | n+1=>by
  simp only[List.replicate_succ,List.flatMap_cons,List.flatten_cons];exact h.append (rep_Rl h n)
theorem flat_len {es:Nat}:∀{xs:List AV},(∀x∈xs,x.cells.length=es)->(xs.flatMap AV.cells).length=xs.length*es
 | [],_=>by simp
 | x::xs,h=>by
  simp only[List.flatMap_cons,lA,lC];rw[flat_len (λy hy=>h y (by simp[hy])),h x (by simp),Nat.add_mul];omega
theorem flat_set {es:Nat}{v:AV}(hv:v.cells.length=es):∀{xs:List AV} {i:Nat},(∀x∈xs,x.cells.length=es)->i<xs.length->(xs.set i v).flatMap AV.cells=splice (xs.flatMap AV.cells) (i*es) v.cells
 | [],i,_,h=>by simp at h
 | x::xs,0,h,_=>by
  have hx:=h x (by simp);simp only[List.set_cons_zero,List.flatMap_cons,splice,Nat.zero_mul,List.take_zero,List.nil_append,Nat.zero_add,hv];rw[List.drop_append_of_le_length (by omega),List.drop_eq_nil_of_le (by omega),List.nil_append]
 | x::xs,i+1,h,hi=>by
  have hx:=h x (by simp);have ih:=flat_set hv (xs:=xs) (i:=i) (λy hy=>h y (by simp[hy])) (by simpa using hi);simp only[List.set_cons_succ,List.flatMap_cons,ih,splice];rw[show (i+1)*es=x.cells.length+i*es by rw[hx,Nat.add_mul];omega,List.take_length_add_append,Nat.add_assoc,List.drop_length_add_append];simp[aA]
theorem fillE_fillC {es:Nat}:∀{ps:List (Nat×DOpd)} {xs ys:List AV},(∀x∈xs,x.cells.length=es)->fillE es xs env ps=some ys ->
  ys.length=xs.length/\(∀x∈ys,x.cells.length=es)/\fillC (xs.flatMap AV.cells) env (ps.map λp=>(p.1*es,es,p.2))=some (ys.flatMap AV.cells)
 | [],xs,ys,hx,h=>by
  simp only[fillE,oI]at h;subst h;exact⟨rfl,hx,rfl⟩
 | (i,d)::ps,xs,ys,hx,h=>by
  simp only[fillE]at h;cases hv:opd env d with
  | none=>rw[hv]at h;cases h
  | some v =>
   rw[hv]at h;simp only at h;cases hb:(Nat.beq v.cells.length es && Nat.blt i xs.length) with
   | false=>rw[hb]at h;cases h
   | true =>
    rw[hb]at h;simp only[cond_true]at h;simp only[bA]at hb;have b1:=bE hb.1;have b2:=blt_lt hb.2;have hset:∀x∈xs.set i v,x.cells.length=es:=λx hxm=>by
     rcases List.mem_or_eq_of_mem_set hxm with h1 | h1
     ·exact hx x h1
     ·rw[h1];exact b1
    obtain⟨g1,g2,g3⟩:=fillE_fillC hset h;refine⟨by rw[g1,List.length_set],g2,?_⟩;have hle:i*es+es<=(xs.flatMap AV.cells).length:=by
     rw[flat_len hx];have:(i+1)*es<=xs.length*es:=Nat.mul_le_mul_right _ b2;rw[Nat.add_mul]at this;omega
    have hb2:(Nat.beq v.cells.length es && Nat.ble (i*es+es) (xs.flatMap AV.cells).length)=true:=by
     rw[hb.1,Nat.ble_eq_true_of_le hle];rfl
    simp only[List.map_cons,fillC,hv,hb2,cond_true,<-flat_set b1 hx b2];exact g3
theorem partsS_A {e:TypeId}{s:Nat}:∀{l:List (Nat×Operand)} {ps:List (Nat×DOpd)},partsS P e l=some ps->partsA P e s l=some (ps.map λp=>(p.1*s,s,p.2))
 | [],ps,h=>by simp only[partsS,oI]at h;subst h;rfl
 | (i,x)::l,ps,h=>by
  simp only[partsS]at h;split at h
  ·rename_i d r h1 h2;simp only[oI]at h;subst h;simp only[partsA,h1,partsS_A h2,List.map_cons]
  ·cases h
theorem so_bldSl (h:Good P gt O S G w env a)(hd:∀d,o.dst=some d->O.N.ok d){t e:TypeId}{n s:Nat}{z:AV}{l:Array (Nat×Operand)}{ps:List (Nat×DOpd)}{tk:Bool}(hop:o.op=.buildSlice t n l)(hu:P.underlying t=some (.slice e))(hsz:sizeP P e=some s)(hz:elemC P e=some z)(hp:partsS P e l.toList=some ps)
  (hs0:0<s) (hns:n*s<=16777216) (hzl:z.cells.length=s)
  (hs:stepO gt o.dst env S (if tk then .bldT e s n z ps else .bldS s n z ps)=.done env' S'):OpOK P gt O o w a env' S':=by
 obtain⟨fb,hf⟩:=h.fr;obtain⟨zv,z1,z2⟩:=elemC_sound hz;have hzs:zv.cells.toList.length=s:=by rw[(z2 S G w).cells.length,hzl]
 have hrep:∀x∈List.replicate n z,x.cells.length=s:=λx hx=>by rw[(List.mem_replicate.1 hx).2,hzl]
 have main:∀{ys:List AV},fillE s (List.replicate n z) env ps=some ys->ys.length=n/\(∀x∈ys,x.cells.length=s)/\∃us:List Value,Rl S G w (ys.flatMap AV.cells) us/\us.length=n*s /\
   (execOp a.eval o).run P w=.ok (.value (.slice (some ⟨w.heap.size,0,none⟩) n n)) { w with heap:=w.heap.push (.cells ⟨us⟩ e (0,0)) }:=by
  intro ys hy;obtain⟨g1,g2,g3⟩:=fillE_fillC hrep hy;have hinit:((Array.range (n*s)).map (λj=>zv.cells[j % zv.cells.size]!)).toList=(List.replicate n zv.cells.toList).flatten:=by
   rw[Array.toList_map,Array.toList_range,<-mod_flat zv.cells.toList hzs n];have:zv.cells.size=s:=by simpa using hzs
   rw[this]
  have hr0:Rl S G w ((List.replicate n z).flatMap AV.cells) ((Array.range (n*s)).map (λj=>zv.cells[j % zv.cells.size]!)).toList:=by
   rw[hinit];exact rep_Rl (z2 S G w).cells n
  obtain⟨vs',f1,f2⟩:=fill_sound hf (partsA_R (s:=s) (partsS_A hp)) hr0 g3;have hl:ys.length=n:=by rw[g1,List.length_replicate]
  refine⟨hl,g2,vs'.toList,f2,by rw[f2.length,flat_len g2,hl],?_⟩;have hmap:(l.map λ(i,x)=>(i,a.eval x)).toList=l.toList.map λp=>(p.1,a.eval p.2):=by simp
  have hif:∀(A B:Sem Value),(¬n*s=0->Sem.run P B w=.ok (.slice (some ⟨w.heap.size,0,none⟩) n n) { w with heap:=w.heap.push (.cells ⟨vs'.toList⟩ e (0,0)) })->(n*s=0->Sem.run P A w=.ok (.slice (some ⟨w.heap.size,0,none⟩) n n) { w with heap:=w.heap.push (.cells ⟨vs'.toList⟩ e (0,0)) }) ->
    Sem.run P (if n*s=0 then A else B) w=.ok (.slice (some ⟨w.heap.size,0,none⟩) n n) { w with heap:=w.heap.push (.cells ⟨vs'.toList⟩ e (0,0)) }:=λA B hb ha=>by
   by_cases h0:n*s=0
   ·rw[if_pos h0];exact ha h0
   ·rw[if_neg h0];exact hb h0
  simp only[execOp,hop,Instr.buildSlice,Sem.run_bind,run_underlying hu,Result.andThen_ok,run_sizeP hsz];rw[if_neg (by simp;omega)];simp only[Sem.run_pure,Result.andThen_ok,Sem.run_bind];rw[hif]
  ·rfl
  ·intro h0;simp only[Sem.run_bind,z1,Result.andThen_ok,Sem.run_pure,hmap,f1];simp[newRow,newObj,Sem.run]
  ·intro h0;simp only[h0,show Array.range 0 = #[] from rfl,List.map_toArray,List.map_nil]at f1;simp only[Sem.run_bind,Sem.run_pure,Result.andThen_ok,hmap,h0,show Array.range 0 = #[] from rfl,List.map_toArray,List.map_nil,f1];simp[newRow,newObj,Sem.run]
 cases tk with
 | true =>
  simp only[if_true,stepO]at hs;split at hs
  ·rename_i ys hy;simp only[SR.done.injEq]at hs;obtain⟨rfl,rfl⟩:=hs;obtain⟨k1,k2,us,k3,k4,k5⟩:=main hy;obtain⟨G',t1,t2⟩:=newTok_slice (rest:=[]) (cap:=n) (sf:=false) (fr:=(0,0)) (capO:=some n) h.inv hsz hs0 k3 k2 (by simp[k4]) (by omega) (by rw[k4,k1]) (.inl rfl) (λc hc=>by cases hc;rfl);rw[k1,List.append_nil]at t1 t2;exact⟨_,G',.inl ⟨_,k5,(h.step t1).putV hd t2⟩⟩
  ·cases hs
 | false =>
  simp only[Bool.false_eq_true,if_false,stepO]at hs;cases hy:fillE s (List.replicate n z) env ps with
  | none=>rw[hy]at hs;cases hs
  | some ys =>
   rw[hy]at hs;simp only[Option.map_some,SR.val,SR.done.injEq]at hs;obtain⟨rfl,rfl⟩:=hs;obtain⟨k1,k2,us,k3,k4,k5⟩:=main hy;have htr:=Tr.newSt h.inv ⟨us⟩ e;refine⟨_,_,.inl ⟨_,k5,(h.step htr).putV hd ?_⟩⟩;have hrl:=k3.mono htr.ext;simp only[Rv];have hnb:∀j,j<us.length->({ w with heap:=w.heap.push (.cells ⟨us⟩ e (0,0)) }:World).cell? ⟨w.heap.size,0+j,none⟩=us[j]?:=λj hj=>by
    simp only[World.cell?,Array.getElem?_push_size,Nat.zero_add];simp
   refine⟨some ⟨w.heap.size,0,none⟩,n,n,rfl,⟨k1.symm,nR _,by simp,λc hc=>(by simpa using hc),λhc=>(by cases hc),λp hp hc=>?_⟩,λ_ p hp=>?_⟩
   ·cases hp;refine⟨hs0,rfl,⟨e,us.length,?_,?_⟩,?_⟩
    ·simp only[World.shape?,Array.getElem?_push_size,List.size_toArray]
    ·simp[k4]
    ·rw[rd_none rfl];exact .inr rfl
   ·cases hp;exact Rat.ofCells hrl k2 hnb
end

section
variable {P:Program}{gt:GT}{O:Orig}{S:St}{G:Gh}{w:World}{env env':Env}{a:Act}{S':St}{o:Oper}
theorem elemC_zero {e:TypeId}{i:TypeInfo}{z:AV}(hi:P.info? e=some i)(h:elemC P e=some z):∃zv:Value,i.zero=some zv/\∀S G w,Rv S G w z zv:=by
 unfold elemC at h;rw[hi]at h;simp only at h;split at h
 ·rename_i zv hz;exact⟨zv,hz,λS G w=>constC_sound h⟩
 ·cases h
theorem so_mks (h:Good P gt O S G w env a)(hd:∀d,o.dst=some d->O.N.ok d){t e:TypeId}{i:TypeInfo}{z:AV}{x y:Operand}{dx dy:DOpd}(hop:o.op=.makeSlice t x y)(hu:P.underlying t=some (.slice e))(hi:P.info? e=some i)(hz:elemC P e=some z)(hx:opdP P 0 x=some dx)(hy:opdP P 0 y=some dy)
  (hs0:0<i.size) (hs:stepO gt o.dst env S (.mks e i.size i.bytes z dx dy)=.done env' S'):OpOK P gt O o w a env' S':=by
 obtain⟨fb,hf⟩:=h.fr;obtain⟨zv,z1,z2⟩:=elemC_zero hi hz;simp only[stepO]at hs;split at hs
 ·rename_i l c hl hc;cases hb:(Nat.ble l c && (Nat.ble (c*i.bytes) 17592186044416 && (Nat.ble c 17592186044416 && Nat.beq z.cells.length i.size))) with
  | false=>rw[hb]at hs;cases hs
  | true =>
  rw[hb]at hs;simp only[cond_true]at hs;simp only[bA]at hb;obtain⟨b1,b2,b3,b4⟩:=hb;have b1:=bL b1;have b2:=bL b2;have b3:=bL b3;have b4:=bE b4;obtain⟨v1,e1,e2⟩:=bind_nat hl;obtain⟨v2,e3,e4⟩:=bind_nat hc;obtain⟨k1,r1⟩:=nat?_sound e2 (opd_sound hx e1 hf);obtain⟨k2,r2⟩:=nat?_sound e4 (opd_sound hy e3 hf);have hzs:zv.cells.toList.length=i.size:=by rw[(z2 S G w).cells.length,b4]
  have hzs':zv.cells.size=i.size:=by simpa using hzs
  have hb2:(i.bytes:Int)*(c:Int)<=281474976710656:=by
   have:((c*i.bytes:Nat):Int)<=((17592186044416:Nat):Int):=Int.ofNat_le.2 b2;rw[Int.natCast_mul,Int.mul_comm]at this;omega
  have hrun:(execOp a.eval o).run P w=.ok (.value (.slice (some ⟨w.heap.size,0,none⟩) l c)) { w with heap:=w.heap.push (.cells ⟨(List.replicate c zv.cells.toList).flatten⟩ e (0,0)) }:=by
   have hm:=run_make (P:=P) w t e i zv hu hi z1 k1 k2 l c (by omega) (by omega) hb2 (by omega);simp only[Int.toNat_natCast]at hm;have hcells:madeCells zv.cells (c*i.size)=⟨(List.replicate c zv.cells.toList).flatten⟩:=by
    apply Array.ext'
    rw[<-mod_flat zv.cells.toList hzs c];simp[madeCells,hzs',Array.toList_range]
   rw[hcells]at hm;simp only[execOp,hop,r1,r2,Sem.run_bind,hm,Result.andThen_ok,Sem.run_pure];rfl
  have hr0:=rep_Rl (z2 S G w).cells c;have hrl:Rl S G w (List.replicate c z.cells).flatten (List.replicate c zv.cells.toList).flatten:=by
   have:(List.replicate c z).flatMap AV.cells=(List.replicate c z.cells).flatten:=by
    rw[List.flatMap_def,List.map_replicate]
   rw[<-this];exact hr0
  cases hc0:Nat.beq c 0 with
  | true =>
   have hc0:=bE hc0;subst hc0;have hl0:l=0:=by omega
   subst hl0;simp only[Nat.beq_refl,cond_true,SR.done.injEq]at hs;obtain⟨rfl,rfl⟩:=hs;refine⟨_,G,.inl ⟨_,hrun,(h.step (Tr.gr h.inv (Gr.push w _))).putV hd ?_⟩⟩;simp only[Rv];exact⟨_,_,_,rfl,⟨rfl,nR _,by simp,λc hc=>(by simpa using hc),λ_=>rfl,λp hp hc=>absurd hc (Nat.lt_irrefl _)⟩,λ_ p hp=>by simp only[Rat]⟩
  | false =>
   rw[hc0]at hs;simp only[cond_false,SR.done.injEq]at hs;obtain⟨rfl,rfl⟩:=hs;have t1:=Tr.newBox (c:=⟨(List.replicate c zv.cells.toList).flatten⟩) h.inv e hrl;have t2:=Tr.newMoved (id:=S.nb) t1.inv 0 (Nat.lt_succ_self _);refine⟨_,_,.inl ⟨_,hrun,((h.step t1).step t2).putV hd ?_⟩⟩;simp only[Rv];have hrd:rd { S with nb:=S.nb+1,boxes:=(S.nb,some (e,(List.replicate c z.cells).flatten))::S.boxes,nt:=S.nt+1,tip:=(S.nt,none)::S.tip,mv:=(S.nt,.bx S.nb 0)::S.mv } ⟨some (S.nt,S.nt),0,some c,false⟩=.box S.nb 0:=by
    unfold rd;simp only[lk_same]
   refine⟨_,_,_,rfl,⟨by simp,b1,by simp,λc hc=>(by simpa using hc),λhc=>(by cases hc),λp hp hc=>?_⟩,λhr=>?_⟩
   ·cases hp;refine⟨hs0,rfl,⟨e,((List.replicate c zv.cells.toList).flatten).length,?_,?_⟩,?_⟩
    ·simp only[World.shape?,Array.getElem?_push_size,List.size_toArray]
    ·have:((List.replicate c zv.cells.toList).flatten).length=c*i.size:=by rw[<-mod_flat _ hzs c];simp
     rw[this];simp
    ·rw[hrd];simp only[upd_same];exact⟨Nat.lt_succ_self _,trivial,by simp,λt l hh=>by simp only[oI,Prod.mk.injEq]at hh;obtain⟨rfl,rfl⟩:=hh;exact⟨Nat.lt_succ_self _,upd_same _ _ _⟩⟩
   ·rw[hrd]at hr;cases hr
 ·cases hs
theorem so_cvSB (h:Good P gt O S G w env a)(hd:∀d,o.dst=some d->O.N.ok d){s t e:TypeId}{x:Operand}{dx:DOpd}(hop:o.op=.convert s t x)(hu:P.underlying s=some .string)(hv:P.underlying t=some (.slice e))(he:P.underlying e=some (.int .u8))(hsz:sizeP P e=some 1)(hx:opdP P s x=some dx)
  (hs:stepO gt o.dst env S (.cvSB e dx)=.done env' S'):OpOK P gt O o w a env' S':=by
 obtain⟨fb,hf⟩:=h.fr;simp only[stepO]at hs;split at hs
 ·rename_i str hxa;cases hb:Nat.ble str.length 17592186044416 with
  | false=>rw[hb]at hs;cases hs
  | true =>
  rw[hb]at hs;simp only[cond_true,SR.done.injEq]at hs;obtain⟨rfl,rfl⟩:=hs;have hb:=bL hb;have rx:=opd_sound hx hxa hf;simp only[Rv]at rx;have hrun:(execOp a.eval o).run P w=.ok (.value (.slice (some ⟨w.heap.size,0,none⟩) (⟨⟨str⟩⟩:ByteArray).size (grownCap w (⟨⟨str⟩⟩:ByteArray).size 0 e))) (Lib.bytesWorld w e ⟨⟨str⟩⟩):=by
   simp only[execOp,hop,rx,Sem.run_bind,Lib.run_convert_string_bytes (P:=P) w s t e ⟨⟨str⟩⟩ hu hv he,Result.andThen_ok,Sem.run_pure]
  have hsize:(⟨⟨str⟩⟩:ByteArray).size=str.length:=rfl;have hcap:str.length<=grownCap w str.length 0 e:=by simp only[grownCap,Question.cut];omega
  have hg:=Gr.drew w (w.drawn+1);have h1:=h.step (Tr.gr h.inv hg);obtain⟨us,hus⟩:∃us:List Value,us=str.map λb=>Value.int .u8 (b.toNat:Int):=⟨_,rfl⟩
  obtain⟨rest,hrest⟩:∃rest:List Value,rest=List.replicate (grownCap w str.length 0 e-str.length) (Value.int .u8 0):=⟨_,rfl⟩
  have hul:us.length=str.length:=by simp[hus]
  have hrl:rest.length=grownCap w str.length 0 e-str.length:=by simp[hrest]
  obtain⟨G',t1,t2⟩:=newTok_slice (w:={ w with drawn:=w.drawn+1 }) (e:=e) (es:=1) (xs:=ofBytes str) (us:=us) (rest:=rest) (sf:=true) (fr:=((us++rest).length,(us++rest).length+1)) (capO:=none) (cap:=grownCap w str.length 0 e)
   h1.inv hsz (by decide) (by rw[ofBytes_cells,hus];exact ofBytes_Rl str) (λq hq=>by simp only[ofBytes,List.mem_map]at hq;obtain⟨b,_,rfl⟩:=hq;rfl) (by omega) (by simpa[ofBytes] using hcap) (by simp[ofBytes,hul]) (.inr ⟨rfl,rfl⟩) (λc hc=>by cases hc)
  have hw:Lib.bytesWorld w e ⟨⟨str⟩⟩=({ w with drawn:=w.drawn+1,heap:=w.heap.push (.cells ⟨us++rest⟩ e ((us++rest).length,(us++rest).length+1)) }:World):=by
   have hc:Lib.bytesCells w e ⟨⟨str⟩⟩=⟨us++rest⟩:=by
    simp[Lib.bytesCells,hsize,hus,hrest]
   unfold Lib.bytesWorld;rw[hc];simp only[World.freeze,World.alloc,World.drew];rw[if_neg (by decide)]
   congr 1
   apply Array.ext_getElem?
   intro j;rw[Array.getElem?_modify];by_cases hj:w.heap.size=j
   ·subst hj;simp
   ·rw[if_neg hj];simp[Array.getElem?_push,Ne.symm hj]
  rw[hw,hsize]at hrun;have hl:(ofBytes str).length=str.length:=by simp[ofBytes]
  rw[hl]at t1 t2;exact⟨_,G',.inl ⟨_,hrun,(h1.step t1).putV hd t2⟩⟩
 ·cases hs
theorem so_mksS (h:Good P gt O S G w env a)(hd:∀d,o.dst=some d->O.N.ok d){t e:TypeId}{i:TypeInfo}{z:AV}{x y:Operand}{dx dy:DOpd}(hop:o.op=.makeSlice t x y)(hu:P.underlying t=some (.slice e))(hi:P.info? e=some i)(hz:elemC P e=some z)(hx:opdP P 0 x=some dx)(hy:opdP P 0 y=some dy)
  (hs0:0<i.size) (hs:stepO gt o.dst env S (.mksS i.size i.bytes z dx dy)=.done env' S'):OpOK P gt O o w a env' S':=by
 obtain⟨fb,hf⟩:=h.fr;obtain⟨zv,z1,z2⟩:=elemC_zero hi hz;simp only[stepO]at hs;split at hs
 ·rename_i l c hl hc;cases hb:(Nat.ble l c && (Nat.ble (c*i.bytes) 17592186044416 && (Nat.ble c 17592186044416 && Nat.beq z.cells.length i.size))) with
  | false=>rw[hb]at hs;cases hs
  | true =>
  rw[hb]at hs;simp only[cond_true,SR.done.injEq]at hs;obtain⟨rfl,rfl⟩:=hs;simp only[bA]at hb;obtain⟨b1,b2,b3,b4⟩:=hb;have b1:=bL b1;have b2:=bL b2;have b3:=bL b3;have b4:=bE b4;obtain⟨v1,e1,e2⟩:=bind_nat hl;obtain⟨v2,e3,e4⟩:=bind_nat hc;obtain⟨k1,r1⟩:=nat?_sound e2 (opd_sound hx e1 hf);obtain⟨k2,r2⟩:=nat?_sound e4 (opd_sound hy e3 hf);have hzs:zv.cells.toList.length=i.size:=by rw[(z2 S G w).cells.length,b4]
  have hzs':zv.cells.size=i.size:=by simpa using hzs
  have hb2:(i.bytes:Int)*(c:Int)<=281474976710656:=by
   have:((c*i.bytes:Nat):Int)<=((17592186044416:Nat):Int):=Int.ofNat_le.2 b2;rw[Int.natCast_mul,Int.mul_comm]at this;omega
  have hrun:(execOp a.eval o).run P w=.ok (.value (.slice (some ⟨w.heap.size,0,none⟩) l c)) { w with heap:=w.heap.push (.cells ⟨(List.replicate c zv.cells.toList).flatten⟩ e (0,0)) }:=by
   have hm:=run_make (P:=P) w t e i zv hu hi z1 k1 k2 l c (by omega) (by omega) hb2 (by omega);simp only[Int.toNat_natCast]at hm;have hcells:madeCells zv.cells (c*i.size)=⟨(List.replicate c zv.cells.toList).flatten⟩:=by
    apply Array.ext'
    rw[<-mod_flat zv.cells.toList hzs c];simp[madeCells,hzs',Array.toList_range]
   rw[hcells]at hm;simp only[execOp,hop,r1,r2,Sem.run_bind,hm,Result.andThen_ok,Sem.run_pure];rfl
  have htr:=Tr.newSt h.inv ⟨(List.replicate c zv.cells.toList).flatten⟩ e;refine⟨_,_,.inl ⟨_,hrun,(h.step htr).putV hd ?_⟩⟩;have hrl:=(rep_Rl (z2 S G w).cells l).mono htr.ext;simp only[Rv];have hlen:∀n,((List.replicate n zv.cells.toList).flatten).length=n*i.size:=λn=>by rw[<-mod_flat _ hzs n];simp
  have hpre:(List.replicate c zv.cells.toList).flatten=(List.replicate l zv.cells.toList).flatten++(List.replicate (c-l) zv.cells.toList).flatten:=by
   rw[<-List.flatten_append,List.replicate_append_replicate];congr;omega
  refine⟨some ⟨w.heap.size,0,none⟩,l,c,rfl,⟨by simp,b1,by simp,λc hc=>(by simpa using hc),λhc=>(by cases hc),λp hp hc=>?_⟩,λ_ p hp=>?_⟩
  ·cases hp;refine⟨hs0,rfl,⟨e,((List.replicate c zv.cells.toList).flatten).length,?_,?_⟩,?_⟩
   ·simp only[World.shape?,Array.getElem?_push_size,List.size_toArray]
   ·rw[hlen c];simp
   ·rw[rd_none rfl];exact .inr rfl
  ·cases hp;refine Rat.ofCells hrl (λx hx=>by rw[(List.mem_replicate.1 hx).2,b4]) λj hj=>?_;simp only[World.cell?,Array.getElem?_push_size,Nat.zero_add,List.getElem?_toArray];rw[hpre,List.getElem?_append_left hj];rfl
 ·cases hs
end

section
variable {P:Program}{gt:GT}{O:Orig}{S:St}{G:Gh}{w:World}{env env':Env}{a:Act}{S':St}{o:Oper}
theorem bytes?_eq:∀{ys:List AV} {s:List UInt8},bytes? ys=some s->∃ns:List Int,ys=ns.map (AV.int .u8)/\s=ns.map λn=>UInt8.ofNat n.toNat
 | [],s,h=>by simp only[bytes?,oI]at h;exact⟨[],rfl,h.symm⟩
 | y::ys,s,h=>by
  unfold bytes? at h;split at h
  ·rename_i heq;cases heq
  ·rename_i n r heq;cases heq;cases hr:bytes? ys with
   | none=>rw[hr]at h;cases h
   | some s' =>
    rw[hr]at h;simp only[Option.map_some,oI]at h;obtain⟨ns,h1,h2⟩:=bytes?_eq hr;exact⟨n::ns,by rw[h1];rfl,by rw[<-h,h2];rfl⟩
  ·cases h
theorem ints_Rl:∀{ns:List Int} {us:List Value},Rl S G w (ns.map (AV.int .u8)) us->us=ns.map (Value.int .u8)
 | [],us,h=>by simpa[Rl] using h
 | n::ns,us,h=>by
  simp only[List.map_cons,Rl]at h;obtain⟨v,r,rfl,h1,h2⟩:=h;simp only[Rv]at h1;rw[h1,ints_Rl h2];rfl
theorem flat_ints (ns:List Int):(ns.map (AV.int .u8)).flatMap AV.cells=ns.map (AV.int .u8):=by
 induction ns with
 | nil=>rfl
 | cons n ns ih=>simp only[List.map_cons,List.flatMap_cons,AV.cells,ih];rfl
theorem foldl_push (ns:List Int):∀(s:ByteArray),ns.foldl (λr n=>r.push (UInt8.ofNat n.toNat)) s=⟨s.data++(ns.map λn=>UInt8.ofNat n.toNat).toArray⟩:=by
 induction ns with
 | nil=>intro s;simp
 | cons n ns ih =>
  intro s;simp only[List.foldl_cons,ih];apply ByteArray.ext
  simp[ByteArray.push]
theorem so_cvBS (h:Good P gt O S G w env a)(hd:∀d,o.dst=some d->O.N.ok d){s t e:TypeId}{x:Operand}{dx:DOpd}(hop:o.op=.convert s t x)(hu:P.underlying s=some (.slice e))(hv:P.underlying t=some .string)(he:P.underlying e=some (.int .u8))(hx:opdP P s x=some dx)
  (hs:stepO gt o.dst env S (.cvBS dx)=.done env' S'):OpOK P gt O o w a env' S':=by
 obtain⟨fb,hf⟩:=h.fr;simp only[stepO]at hs;split at hs
 ·rename_i so xs hxa;have rx:=opd_sound hx hxa hf;simp only[Rv]at rx;obtain⟨ad,len,cap,r1,hsl,hrat⟩:=rx;refine ok_val' h hd hs λy hy=>?_;cases hel:elems S false 1 so xs with
  | none=>rw[hel]at hy;cases hy
  | some ys =>
   rw[hel]at hy;simp only[Option.bind_some]at hy;cases hb:bytes? ys with
   | none=>rw[hb]at hy;cases hy
   | some str =>
    rw[hb]at hy;simp only[Option.map_some,oI]at hy;subst hy;obtain⟨k1,k2,us,k3,k4,k5⟩:=elems_sound h.inv hel hsl hrat;obtain⟨ns,n1,n2⟩:=bytes?_eq hb;rw[n1,flat_ints]at k3;have hus:=ints_Rl k3;refine⟨.string ⟨⟨str⟩⟩,by simp only[Rv],?_⟩;have hconv:=run_convert_bytes_string (P:=P) w s t e ad len cap hu he hv;have hbs:(Conv.bytesToString (.slice ad len cap)).run P w=.ok (.string ⟨⟨str⟩⟩) w:=by
     cases ad with
     | none =>
      have hl0:len=0:=by have:=hsl.2.2.2.2.1 rfl;have:=hsl.2.1;omega
      have:ns=[]:=by
       have:us.length=0:=by rw[k4,hl0]
       rw[hus]at this;simpa using this
      subst this;subst n2;simp only[Conv.bytesToString,Sem.run_pure];rfl
     | some p =>
      have hload:(loadCells p len).run P w=.ok (ns.map (Value.int .u8)).toArray w:=by
       have hlen:len=us.length:=by rw[k4];omega
       by_cases hc:0<cap
       ·obtain⟨g1,g2⟩:=k5 p rfl hc;obtain⟨pb,po,ps⟩:=p;simp only at g1 g2;subst g1;rw[hlen,run_ldC us (λj hj=>g2 j hj),hus]
       ·have hl0:len=0:=by have:=hsl.2.1;omega
        have:us=[]:=List.length_eq_zero_iff.1 (by omega);rw[hl0,<-hus,this];rfl
      rw[run_bytesToString (P:=P) w p len cap ns hload,foldl_push,n2]
      congr 2
      apply ByteArray.ext
      simp
    simp only[execOp,hop,r1,Sem.run_bind,hconv,hbs,Result.andThen_ok,Sem.run_pure]
 ·cases hs
theorem boxShape (hI:Inv P gt S G w){id:Nat}{ty:TypeId}{cs:List AV}(h:lk S.boxes id=some (some (ty,cs))):∃n,w.shape? (G.β id)=some (ty,n)/\cs.length<=n:=by
 obtain⟨_,pre,rest,fr,sf,h2,h3,h4⟩:=hI.boxCells h;exact⟨(pre++rest).length,by simp[World.shape?,h2],by have:=h4.length;simp;omega⟩
theorem run_seenAt {b off:Nat}{x:TypeId×Nat}(h:w.shape? b=some x):(Conv.seenAt ⟨b,off,none⟩).run P w=.ok ⟨b,off,none⟩ w:=by
 simp[Conv.seenAt,viewAt,h]
theorem so_cvU (h:Good P gt O S G w env a)(hd:∀d,o.dst=some d->O.N.ok d){s t e:TypeId}{n:Nat}{x:Operand}{dx:DOpd}(hop:o.op=.convert s t x)(hu:P.underlying s=some (.pointer e))(hv:P.underlying t=some .unsafePointer)(hsz:sizeP P e=some (n+1))(hx:opdP P s x=some dx)
  (hs:stepO gt o.dst env S (.cvU dx)=.done env' S'):OpOK P gt O o w a env' S':=by
 obtain⟨fb,hf⟩:=h.fr;simp only[stepO]at hs;split at hs
 ·rename_i hxa;simp only[SR.done.injEq]at hs;obtain⟨rfl,rfl⟩:=hs;have rx:=opd_sound hx hxa hf;simp only[Rv]at rx;exact ok_val h hd (v:=.pointer none) (by simp only[Rv]) (by simp[execOp,hop,rx,convert,run_underlying hu,run_underlying hv,Conv.unsafePointer])
 ·rename_i id off hxa;have rx:=opd_sound hx hxa hf;have rx0:=rx;simp only[Rv]at rx;split at hs
  ·rename_i ty cs hk;cases hb:Nat.blt off cs.length with
   | false=>rw[hb]at hs;cases hs
   | true =>
   rw[hb]at hs;simp only[cond_true,SR.done.injEq]at hs;obtain⟨rfl,rfl⟩:=hs;have hb:=blt_lt hb;obtain⟨m,h1,h2⟩:=boxShape h.inv hk;have hseen:=run_seenAt (P:=P) (off:=off) h1;have hm:¬m<=off:=by omega
   refine ok_val h hd rx0 ?_;simp[execOp,hop,rx.2,convert,run_underlying hu,run_underlying hv,Conv.unsafePointer,hseen,cellsIn,h1,run_sizeP hsz,hm]
  ·cases hs
 ·cases hs
theorem rowAt_mono {fits:TypeId->Bool}{c c' off n:Nat}(hc:c<=c'):∀(d:Nat) (e:TypeId),rowAt P fits d e c off n=true->rowAt P fits d e c' off n=true
 | 0,_,h=>by simp[rowAt]at h
 | d+1,e,h=>by
  simp only[rowAt]at h ⊢;split at h
  ·cases h
  ·rename_i h0;rw[if_neg h0];simp only[Bool.or_eq_true,bA,decide_eq_true_eq]at h ⊢;rcases h with⟨⟨h1,h2⟩,h3⟩ | ⟨h1,h2⟩
   ·exact .inl ⟨⟨h1,by omega⟩,h3⟩
   ·exact .inr ⟨by omega,h2⟩
theorem liesAt_mono {c c':Nat}(hc:c<=c'):∀(d:Nat) {e u:TypeId} {off n:Nat},liesAt P d e c off u n=true->liesAt P d e c' off u n=true
 | 0,_,_,_,_,h=>by simp[liesAt]at h
 | d+1,e,u,off,n,h=>by
  simp only[liesAt,Bool.or_eq_true]at h ⊢;rcases h with h | h
  ·exact .inl (rowAt_mono hc _ _ h)
  ·right
   split at h
   ·rename_i m u' hu;exact liesAt_mono hc d h
   ·cases h
theorem so_cvP (h:Good P gt O S G w env a)(hd:∀d,o.dst=some d->O.N.ok d){s t u:TypeId}{n:Nat}{x:Operand}{dx:DOpd}(hop:o.op=.convert s t x)(hu:P.underlying s=some .unsafePointer)(hv:P.underlying t=some (.pointer u))(hsz:sizeP P u=some (n+1))(hx:opdP P s x=some dx)
  (hs:stepO gt o.dst env S (.cvP (okP P u) dx)=.done env' S'):OpOK P gt O o w a env' S':=by
 obtain⟨fb,hf⟩:=h.fr;simp only[stepO]at hs;split at hs
 ·rename_i hxa;simp only[SR.done.injEq]at hs;obtain⟨rfl,rfl⟩:=hs;have rx:=opd_sound hx hxa hf;simp only[Rv]at rx;exact ok_val h hd (v:=.pointer none) (by simp only[Rv]) (by simp[execOp,hop,rx,convert,run_underlying hu,run_underlying hv,Conv.unsafePointer])
 ·rename_i id off hxa;have rx:=opd_sound hx hxa hf;have rx0:=rx;simp only[Rv]at rx;split at hs
  ·rename_i ty cs hk;cases hb:((okP P u).any λp=>Nat.beq p.1 ty && (Nat.beq p.2.1 off && Nat.ble p.2.2 cs.length)) with
   | false=>rw[hb]at hs;cases hs
   | true =>
   rw[hb]at hs;simp only[cond_true,SR.done.injEq]at hs;obtain⟨rfl,rfl⟩:=hs;simp only[bA,List.any_eq_true]at hb;obtain⟨⟨ty',off',sz⟩,b1,b2,b0,b3⟩:=hb;have b0:=bE b0;have b2:=bE b2;have b3:=bL b3;simp only at b2 b3;subst b0;subst b2;obtain⟨m,h1,h2⟩:=boxShape h.inv hk;have hlies:sizeP P ty'=some sz/\off'<sz/\liesAt P P.depth ty' 1 off' u 1=true:=by
    simp only[okP,List.mem_flatMap]at b1;obtain⟨q,_,hq⟩:=b1;split at hq
    ·rename_i s' hs';split at hq
     ·simp only[List.mem_filterMap,List.mem_range]at hq;obtain⟨x,hx,hq⟩:=hq;split at hq
      ·rename_i hc;simp only[oI,Prod.mk.injEq]at hq;obtain⟨rfl,rfl,rfl⟩:=hq;exact⟨hs',by omega,hc⟩
      ·cases hq
     ·cases hq
    ·cases hq
   obtain⟨l1,l2,l3⟩:=hlies;have hcells:P.cellsOf ty'=sz:=by
    unfold sizeP at l1;unfold Program.cellsOf;rw[l1];rfl
   have hle:1<=m / P.cellsOf ty':=by
    rw[hcells,Nat.le_div_iff_mul_le (by omega)];omega
   have hl:=liesAt_mono hle P.depth l3;have hseen:=run_seenAt (P:=P) (off:=off') h1;have hva:(variablesAt ⟨G.β id,off',none⟩ u 1).run P w=.ok true w:=by
    simp[variablesAt,h1,hl]
   refine ok_val h hd rx0 ?_;simp[execOp,hop,rx.2,convert,run_underlying hu,run_underlying hv,Conv.unsafePointer,hseen,run_sizeP hsz,hva]
  ·cases hs
 ·cases hs
theorem so_usd (h:Good P gt O S G w env a)(hd:∀d,o.dst=some d->O.N.ok d){c:Call}{t:TypeId}{x:Operand}{dx:DOpd}(hop:o.op=.call c)(hc:c.callee=.builtin .unsafeSliceData)(ht:c.argTypes = #[t])(ha:c.args = #[x])
  (hx:opdP P t x=some dx)
  (hs:stepO gt o.dst env S (.usd dx)=.done env' S'):OpOK P gt O o w a env' S':=by
 obtain⟨fb,hf⟩:=h.fr;have hrunB:∀{v:Value} {w':World},(Builtin.unsafeSliceData_ #[t] o.type #[a.eval x]).run P w=.ok v w'->(execOp a.eval o).run P w=.ok (.value v) w':=λhq =>
  run_builtin hop hc (λcs=>rfl) (by rw[ht,ha];simpa using hq)
 simp only[stepO]at hs;split at hs
 ·rename_i so y xs hxa;simp only[SR.done.injEq]at hs;obtain⟨rfl,rfl⟩:=hs;have rx:=opd_sound hx hxa hf;simp only[Rv]at rx;obtain⟨ad,len,cap,r1,hsl,hrat⟩:=rx;have h1:=hsl.1;have h2:=hsl.2.1;simp only[lC]at h1;have hcap:0<cap:=by omega
  cases ad with
  | none=>have:=hsl.2.2.2.2.1 rfl;omega
  | some p =>
   obtain⟨g1,g2,_⟩:=hsl.2.2.2.2.2 p rfl hcap;refine ok_val h hd (v:=.pointer (some p)) ?_ (hrunB ?_)
   ·simp only[Rv];refine⟨p,len,cap,hsl,λhr=>hrat hr p rfl,by simp,?_⟩;obtain⟨pb,po,ps⟩:=p;simp only at g2;subst g2;simp
   ·rw[r1];exact Lib.run_unsafeSliceData_row w _ _ p len cap (by omega)
 ·rename_i es so hxa;have rx:=opd_sound hx hxa hf;simp only[Rv]at rx;obtain⟨ad,len,cap,r1,hsl,hrat⟩:=rx;cases hn:so.isNil with
  | true =>
   rw[hn]at hs;simp only[cond_true,SR.done.injEq]at hs;obtain⟨rfl,rfl⟩:=hs;have:=hsl.2.2.1.1 hn;subst this;exact ok_val h hd (v:=.pointer none) (by simp only[Rv];exact⟨none,rfl⟩) (hrunB (by rw[r1];exact Lib.run_unsafeSliceData_nil w _ _ len cap))
  | false =>
   rw[hn]at hs;simp only[cond_false]at hs;split at hs
   ·rename_i k hk;simp only[SR.done.injEq]at hs;obtain⟨rfl,rfl⟩:=hs;have hce:=hsl.2.2.2.1 _ hk;cases ad with
    | none=>have:=hsl.2.2.2.2.1 rfl;omega
    | some p=>exact ok_val h hd (v:=.pointer (some p)) (by simp only[Rv];exact⟨some p,rfl⟩) (hrunB (by rw[r1];exact Lib.run_unsafeSliceData_row w _ _ p len cap (by omega)))
   ·cases hs
 ·cases hs
theorem freeze_blk {b:Nat}{c:Array Value}{ty:TypeId}{fr:Nat×Nat}(h:w.heap[b]? = some (.cells c ty fr))(n:Nat):∃fr',w.freeze ⟨b,0,none⟩ n=wBlk w b (.cells c ty fr'):=by
 have hlt:=lt_of_some h;unfold World.freeze;by_cases hn:n=0
 ·rw[if_pos hn];refine⟨fr,?_⟩;unfold wBlk;have:w.heap.setIfInBounds b (.cells c ty fr)=w.heap:=by
   apply Array.ext_getElem?
   intro j;by_cases e:j=b
   ·subst e;rw[h];simp[hlt]
   ·rw[Array.getElem?_setIfInBounds_ne (Ne.symm e)]
  rw[this]
 ·rw[if_neg hn];obtain⟨lo,hi⟩:=fr;refine⟨if lo == hi then (0,0+n) else (min lo 0,max hi (0+n)),?_⟩;unfold wBlk
  congr 1
  apply Array.ext_getElem?
  intro j;rw[Array.getElem?_modify];by_cases e:j=b
  ·subst e;rw[if_pos rfl,h,Array.getElem?_setIfInBounds_self_of_lt hlt];rfl
  ·rw[if_neg (Ne.symm e),Array.getElem?_setIfInBounds_ne (Ne.symm e)]
theorem run_loadInts:∀(ns:List Int) (b off:Nat) (acc:ByteArray),(∀j x,ns[j]? = some x->w.cell? ⟨b,off+j,none⟩=some (.int .u8 x)) ->
  (loadBytes ⟨b,off,none⟩ acc ns.length).run P w=.ok ⟨acc.data++(ns.map λn=>UInt8.ofNat n.toNat).toArray⟩ w
 | [],b,off,acc,_=>by simp[loadBytes]
 | x::ns,b,off,acc,h=>by
  have h0:w.cell? ⟨b,off,none⟩=some (.int .u8 x):=by
   have:=h 0 x rfl;simpa using this
  have ih:=run_loadInts ns b (off+1) (acc.push (UInt8.ofNat x.toNat)) (λj y hy=>by
   have:=h (j+1) y (by simpa using hy);rw[show off+1+j=off+(j+1) by omega];exact this)
  simp only[lC,loadBytes,Sem.run_bind,run_load,h0,Result.andThen,add_none];have:x.toNat.toUInt8=UInt8.ofNat x.toNat:=rfl;rw[this,ih]
  congr 1
  apply ByteArray.ext
  simp[ByteArray.push]
theorem run_ustr {pt it ty e:TypeId}{b n:Nat}{c:Array Value}{fr:Nat×Nat}(hp:P.underlying pt=some (.pointer e))(hsz:sizeP P e=some 1)(h:w.heap[b]? = some (.cells c e fr)){ns:List Int}(hl:ns.length=n)(hn:0<n)(hle:n<=c.size)(hmax:n<=17592186044416)
  (hc:∀j x,ns[j]? = some x->w.cell? ⟨b,j,none⟩=some (.int .u8 x)) :
  ∃fr',(Builtin.unsafeString_ #[pt,it] ty #[.pointer (some ⟨b,0,none⟩),.int .i64 n]).run P w=.ok (.string ⟨⟨ns.map λn=>UInt8.ofNat n.toNat⟩⟩) (wBlk w b (.cells c e fr')):=by
 obtain⟨fr',hfr⟩:=freeze_blk h n;refine⟨fr',?_⟩;have hcells:P.cellsOf e=1:=by
  unfold sizeP at hsz;unfold Program.cellsOf;rw[hsz];rfl
 have hsh:w.shape? b=some (e,c.size):=by simp[World.shape?,h]
 have hlb:=run_loadInts (P:=P) (w:=w) ns b 0 .empty (λj x hj=>by rw[Nat.zero_add];exact hc j x hj);rw[hl]at hlb;have hlies:=Lib.liesAt_bytes (P:=P) hcells (c.size / P.cellsOf e) n (by rw[hcells];simpa using hle);have hdef:Builtin.unsafeString_ #[pt,it] ty #[.pointer (some ⟨b,0,none⟩),.int .i64 n] =
   (do
    let n <-asInt (.int .i64 n)
    if n < 0 then runtimePanic (.error "unsafe.String: len out of range")
    if n > IntKind.i64.max then unsupported (.unsafePointer "String: a length above the largest int")
    if n=0 then pure (.string .empty)
    else if <-variablesAt ⟨b,0,none⟩ (<-elemOf pt) n.toNat then do
     let s <-loadBytes ⟨b,0,none⟩ .empty n.toNat
     freeze ⟨b,0,none⟩ n.toNat
     pure (.string s)
    else unsupported (.unsafePointer "String: not so many bytes at ptr")) := rfl
 rw[hdef];have hmax':IntKind.i64.max=9223372036854775807:=rfl;have h63:¬(9223372036854775807:Int)<(n:Int):=by omega
 have hneg:¬(n:Int)<0:=by omega
 have hn0:¬n=0:=by omega
 simp[asInt,asIntOf,hmax',h63,hneg,hn0,variablesAt,hsh,elemOf,run_underlying hp,hlies,hlb,hfr]
theorem so_ustr (h:Good P gt O S G w env a)(hd:∀d,o.dst=some d->O.N.ok d){c:Call}{t u e:TypeId}{x y:Operand}{dx dy:DOpd}(hop:o.op=.call c)(hc:c.callee=.builtin .unsafeString)(ht:c.argTypes = #[t,u])(ha:c.args = #[x,y])
  (hu:P.underlying t=some (.pointer e)) (hsz:sizeP P e=some 1) (hx:opdP P t x=some dx) (hy:opdP P u y=some dy)
  (hs:stepO gt o.dst env S (.ustr e dx dy)=.done env' S'):OpOK P gt O o w a env' S':=by
 obtain⟨fb,hf⟩:=h.fr;have hrunB:∀{v:Value} {w':World},(Builtin.unsafeString_ #[t,u] o.type #[a.eval x,a.eval y]).run P w=.ok v w'->(execOp a.eval o).run P w=.ok (.value v) w':=λhq =>
  run_builtin hop hc (λcs=>rfl) (by rw[ht,ha];simpa using hq)
 simp only[stepO]at hs;split at hs
 ·rename_i hxa hya;simp only[SR.done.injEq]at hs;obtain⟨rfl,rfl⟩:=hs;have rx:=opd_sound hx hxa hf;have ry:=opd_sound hy hya hf;simp only[Rv]at rx ry;obtain⟨p,rx⟩:=rx;refine ok_val h hd (v:=.string .empty) (by simp only[Rv];rfl) (hrunB ?_);rw[rx,ry];exact Lib.run_unsafeString_none (P:=P) w t u o.type p
 ·rename_i so xs n hxa hya;have rx:=opd_sound hx hxa hf;have ry:=opd_sound hy hya hf;simp only[Rv]at rx ry;obtain⟨p,len,cap,hsl,hrat,hi,hv⟩:=rx;have hl:=hsl.1;subst hl;have hcap:0<cap:=by have:=hsl.2.1;omega
  obtain⟨g1,g2,⟨tyb,kb,g3,g4⟩,g5⟩:=hsl.2.2.2.2.2 p rfl hcap;obtain⟨pb,po,ps⟩:=p;simp only at g2 g3 g4 hv;subst g2;simp only[Nat.zero_mul,Nat.add_zero]at hv;cases hrd:rd S so with
  | no=>rw[hrd]at hs;simp at hs
  | here =>
   rw[hrd]at hs g5;cases ho:so.tok with
   | none=>rw[ho]at hs;simp at hs
   | some tl =>
    obtain⟨tk,ln⟩:=tl;rw[ho]at hs;simp only[ho]at g5;simp only at hs;obtain⟨e1,e2,e3,e4,e5⟩:=g5;split at hs
    ·rename_i m ty' hk;cases hb:(Nat.beq e ty' && (Nat.beq so.off 0 && (Nat.beq n xs.length && Nat.ble n 17592186044416))) with
     | false=>rw[hb]at hs;cases hs
     | true =>
     rw[hb]at hs;simp only[cond_true]at hs;simp only[bA]at hb;obtain⟨b1,b2,b3,b4⟩:=hb;have b1:=bE b1;have b2:=bE b2;have b3:=bE b3;have b4:=bL b4;subst b1;subst b3;split at hs
     ·rename_i str hby;simp only[SR.done.injEq]at hs;obtain⟨rfl,rfl⟩:=hs;obtain⟨ns,n1,n2⟩:=bytes?_eq hby;have hvl:Vld S G tk:=by
       unfold rd at hrd;simp only[ho]at hrd;cases hm:lk S.mv tk with
       | some m=>rw[hm]at hrd;cases m;simp at hrd
       | none =>
        rw[hm]at hrd;simp only at hrd;cases hdd:lk S.dl ln with
        | some u=>rw[hdd]at hrd;cases hrd
        | none=>exact⟨hm,by rw[e2];exact hdd⟩
      obtain⟨ht1,ht2⟩:=h.inv.tip tk _ _ _ hk;obtain⟨es0,cc,fr,k1,k2,k3,k4,k5⟩:=ht2 hvl;have hpo:po=0:=by rw[e4,b2]
      subst hpo;obtain⟨_,us,u1,u2,u3⟩:=(hrat hrd).cells;rw[n1,flat_ints]at u1;have hus:=ints_Rl u1;have hkb:kb=cc.size:=by
       rw[<-e3]at g3;simp only[World.shape?,k2,oI,Prod.mk.injEq]at g3;exact g3.2.symm
      have hnl:ns.length=xs.length:=by
       have:=congrArg List.length n1;simpa using this.symm
      have hlen:=hsl.2.1;subst e3;obtain⟨fr',hrun⟩:=run_ustr (P:=P) (pt:=t) (it:=u) (ty:=o.type) hu hsz k2 hnl (by omega) (by omega) b4 (λj q hj=>by
       have:=u3 j (by
        rw[hus,List.length_map];exact(List.getElem?_eq_some_iff.1 hj).1)
       simp only[Nat.zero_add]at this;rw[this,hus,List.getElem?_map,hj];rfl)
      have t1:=Tr.tipGone h.inv tk ht1;have t2:=Tr.mark (fr':=fr') t1.inv (b:=G.τ tk) (.inr (.inl ⟨tk,ht1,rfl⟩)) k2 (λid q hq=>(h.inv.boxTok id q tk hq ht1 hvl).symm) (λi q hq hvi=>by
       by_cases e':tk=i
       ·subst e';rw[lk_same]at hq;cases hq
       ·rw[lk_ne _ _ e']at hq;exact h.inv.tipInj i tk _ _ hq hk (Ne.symm e') hvi hvl)
      refine⟨_,G,.inl ⟨_,hrunB (v:=.string ⟨⟨str⟩⟩) ?_,((h.step t1).step t2).putV hd (by simp only[Rv])⟩⟩;rw[hv,ry,n2];exact hrun
     ·cases hs
    ·cases hs
  | box b boff =>
   rw[hrd]at hs g5;simp only at hs;split at hs
   ·rename_i ty' cs hk;cases hb:(Nat.beq e ty' && (Nat.beq (boff+so.off) 0 && (Nat.blt 0 n && (Nat.ble n cs.length && Nat.ble n 17592186044416)))) with
    | false=>rw[hb]at hs;cases hs
    | true =>
    rw[hb]at hs;simp only[cond_true]at hs;simp only[bA]at hb;obtain⟨b1,b2,b3,b4,b5⟩:=hb;have b1:=bE b1;have b2:=bE b2;have b3:=blt_lt b3;have b4:=bL b4;have b5:=bL b5;subst b1;split at hs
    ·rename_i str hby;simp only[SR.done.injEq]at hs;obtain⟨rfl,rfl⟩:=hs;obtain⟨ns,n1,n2⟩:=bytes?_eq hby;obtain⟨e1,e2,e3,_⟩:=g5;simp only at e2 e3;have hpo:po=0:=by omega
     subst hpo;obtain⟨hid,pre,rest,fr,sf,h2,h3,h4⟩:=h.inv.boxCells hk;have htake:=h4.take n;rw[n1]at htake;have hus:=ints_Rl htake;have hpl:=h4.length;have hnl:ns.length=n:=by
      have:=congrArg List.length n1;simp at this;omega
     obtain⟨fr',hrun⟩:=run_ustr (P:=P) (pt:=t) (it:=u) (ty:=o.type) hu hsz h2 hnl b3 (by simp;omega) b5 (λj q hj=>by
      have hjl:=(List.getElem?_eq_some_iff.1 hj).1;rw[cell_pre h2 (by omega)];have:(pre.take n)[j]? = some (.int .u8 q):=by rw[hus,List.getElem?_map,hj];rfl
      rw[List.getElem?_take_of_lt (by omega)]at this;exact this)
     have t1:=Tr.boxGone h.inv b hid;have t2:=Tr.mark (fr':=fr') t1.inv (b:=G.β b) (.inl ⟨b,hid,rfl⟩) h2 (λid q hq=>by
      by_cases e':b=id
      ·subst e';rw[lk_same]at hq;cases hq
      ·rw[lk_ne _ _ e']at hq;exact h.inv.boxInj id b _ _ hq hk (Ne.symm e')) (λi q hq hvi=>h.inv.boxTok b _ i hk (h.inv.tip i _ _ _ hq).1 hvi)
     refine⟨_,G,.inl ⟨_,hrunB (v:=.string ⟨⟨str⟩⟩) ?_,((h.step t1).step t2).putV hd (by simp only[Rv])⟩⟩;rw[hv,ry,n2,e2];exact hrun
    ·cases hs
   ·cases hs
 ·cases hs
end

section
variable {P:Program}{gt:GT}{O:Orig}{S:St}{G:Gh}{w:World}{env env':Env}{a:Act}{S':St}{o:Oper}
theorem flatMap_take {es:Nat}:∀{ys:List AV} (k:Nat),(∀y∈ys,y.cells.length=es)->(ys.take k).flatMap AV.cells=(ys.flatMap AV.cells).take (k*es)
 | [],k,_=>by simp
 | y::ys,0,_=>by simp
 | y::ys,k+1,h=>by
  have hy:=h y (by simp);have ih:=flatMap_take (ys:=ys) k λz hz=>h z (List.mem_cons_of_mem _ hz);simp only[List.take_succ_cons,List.flatMap_cons,ih];rw[List.take_append,hy,show (k+1)*es-es=k*es by rw[Nat.add_mul];omega,List.take_of_length_le (l:=y.cells) (by rw[hy,Nat.add_mul];omega)]
theorem src_take (hI:Inv P gt S G w){agg:Bool}{es:Nat}{y:AV}{yv:Value}(hy:Rv S G w y yv){ys:List AV}(h:srcE S agg es y=some ys){k:Nat}(hk:k<=ys.length) :
  (∀w,(Builtin.lenOf yv).run P w=.ok ys.length w)/\∃nv:List Value,Rl S G w ((ys.take k).flatMap AV.cells) nv/\(Builtin.firstCells es k yv).run P w=.ok ⟨nv⟩ w:=by
 unfold srcE at h;split at h
 ·rename_i es'' o' zs;cases hb:Nat.beq es'' es with
  | false=>rw[hb]at h;cases h
  | true =>
   rw[hb]at h;have hb:=bE hb;subst hb;simp only[cond_true]at h;have hy':=hy;simp only[Rv]at hy';obtain⟨ad,len,cap,rfl,hsl,hrat⟩:=hy';obtain⟨k1,k2,us,k3,k4,k5⟩:=elems_sound hI h hsl hrat;have hl:=hsl.1;have hul:us.length=ys.length*es'':=by rw[k4,hl,k1]
   have hle:k*es''<=us.length:=by rw[hul];exact Nat.mul_le_mul_right _ hk
   refine⟨λw=>by simp[Builtin.lenOf,hl,k1],us.take (k*es''),by rw[flatMap_take k k2];exact k3.take _,?_⟩;have hun:ad=none->us=[]:=λe=>by
    have h1:=hsl.2.2.2.2.1 e;have h2:=hsl.2.1;have:us.length=0:=by rw[k4,show len=0 by omega];simp
    exact List.length_eq_zero_iff.1 this
   refine run_firstCells (by rw[lT];omega) (λe=>by rw[hun e];simp) (λp hp h0=>?_);have hc:0<cap:=by
    have h2:=hsl.2.1;rcases Nat.eq_zero_or_pos cap with e | e
    ·exact absurd (by rw[List.length_eq_zero_iff.1 (show us.length=0 by rw[k4,show len=0 by omega];simp)];simp) h0
    ·exact e
   obtain⟨g1,g2⟩:=k5 p hp hc;refine⟨g1,λj hj=>?_⟩;rw[lT]at hj;rw[g2 j (by omega),List.getElem?_take_of_lt (by omega)]
 ·rename_i s;cases hb:Nat.beq es 1 with
  | false=>rw[hb]at h;cases h
  | true =>
   rw[hb]at h;have hb:=bE hb;subst hb;simp only[cond_true,oI]at h;subst h;simp only[Rv]at hy;subst hy;refine⟨λw=>by simp[Builtin.lenOf,ofBytes,ByteArray.size],(s.take k).map λb=>.int .u8 b.toNat,?_,?_⟩
   ·have:(ofBytes s).take k=ofBytes (s.take k):=by simp[ofBytes,List.map_take]
    rw[this,ofBytes_cells];exact ofBytes_Rl _
   ·simp only[Builtin.firstCells,Sem.run_pure]
    congr 1
    apply Array.ext'
    simp[ByteArray.data_extract]
 ·cases h
theorem so_cpy (h:Good P gt O S G w env a)(hd:∀d,o.dst=some d->O.N.ok d){c:Call}{t u e:TypeId}{i:TypeInfo}{x y:Operand}{dx dy:DOpd}(hop:o.op=.call c)(hc:c.callee=.builtin .copy)(ht:c.argTypes = #[t,u])(ha:c.args = #[x,y])
  (hu:P.underlying t=some (.slice e)) (hi:P.info? e=some i) (hx:opdP P t x=some dx) (hy:opdP P u y=some dy)
  (hs:stepO gt o.dst env S (.cpy i.size dx dy)=.done env' S'):OpOK P gt O o w a env' S':=by
 obtain⟨fb,hfr⟩:=h.fr;have hrunB:∀{v:Value} {w':World},(Builtin.copy_ #[t,u] o.type #[a.eval x,a.eval y]).run P w=.ok v w'->(execOp a.eval o).run P w=.ok (.value v) w':=λhq =>
  run_builtin hop hc (λcs=>rfl) (by rw[ht,ha];simpa using hq)
 have hsz:∀w,(sizeOf e).run P w=.ok i.size w:=λw=>by simp[sizeOf,typeInfo,hi]
 simp only[stepO]at hs;split at hs
 ·rename_i es' so xs yv hxa hya;split at hs
  ·rename_i ys hsrc;have rx:=opd_sound hx hxa hfr;have ry:=opd_sound hy hya hfr;simp only[Rv]at rx;obtain⟨ad,len,cap,hv,hsl,hrat⟩:=rx;have hl:=hsl.1;subst hl;cases hb:Nat.beq es' i.size with
   | false=>rw[hb]at hs;cases hs
   | true =>
   rw[hb]at hs;simp only[cond_true]at hs;have hb:=bE hb;subst hb;have hmin:min ys.length xs.length<=ys.length:=Nat.min_le_left _ _;obtain⟨s1,nv,s2,s3⟩:=src_take h.inv ry hsrc hmin;have run:∀{w':World},(∀p,ad=some p->(storeCells p nv).run P w=.ok () w')->(ad=none->w'=w)->(Builtin.copy_ #[t,u] o.type #[a.eval x,a.eval y]).run P w=.ok (.int .i64 (min ys.length xs.length:Nat)) w':=λ{w'} hst hn=>by
    rw[hv];unfold Builtin.copy_;simp only[List.getElem?_toArray,List.getElem?_cons_zero,List.getElem?_cons_succ,Sem.run_bind,run_underlying hu,Result.andThen_ok,s1,hsz];have s3':(Builtin.firstCells i.size (Nat.min ys.length xs.length) (a.eval y)).run P w=.ok ⟨nv⟩ w:=s3;rw[s3'];simp only[Result.andThen_ok];cases ad with
    | none=>rw[hn rfl];rfl
    | some p=>simp only[Sem.run_bind,hst p rfl,Result.andThen_ok,Sem.run_pure];rfl
   cases hk:Nat.beq (min ys.length xs.length) 0 with
   | true =>
    rw[hk]at hs;simp only[cond_true,SR.done.injEq]at hs;obtain⟨rfl,rfl⟩:=hs;have hk:=bE hk;have hnv:nv=[]:=by
     have:=s2.length;rw[hk]at this;exact List.length_eq_zero_iff.1 (by simpa using this)
    subst hnv;have:=run (w':=w) (λp _=>rfl) (λ_=>rfl);rw[hk]at this;exact ok_val h hd (by simp only[Rv];rfl) (hrunB this)
   | false =>
    rw[hk]at hs;simp only[cond_false]at hs;have hpos:0<xs.length:=by
     have:¬min ys.length xs.length=0:=λe=>by rw[e]at hk;cases hk
     omega
    split at hs
    ·rename_i b boff hrd;split at hs
     ·rename_i ty cs hbk;cases hbt:(((ys.take (min ys.length xs.length)).flatMap AV.cells).all ok1 && Nat.ble (boff+so.off*i.size+((ys.take (min ys.length xs.length)).flatMap AV.cells).length) cs.length) with
      | false=>rw[hbt]at hs;cases hs
      | true =>
       rw[hbt]at hs;simp only[cond_true,SR.done.injEq]at hs;obtain⟨rfl,rfl⟩:=hs;simp only[bA]at hbt;have hcap:0<cap:=by have:=hsl.2.1;omega
       cases ad with
       | none=>have:=hsl.2.2.2.2.1 rfl;omega
       | some p =>
       obtain⟨g1,g2,g3,g5⟩:=hsl.2.2.2.2.2 p rfl hcap;rw[hrd]at g5;obtain⟨e1,e2,e3,e4⟩:=g5;obtain⟨w',k1,k2⟩:=stBox_tr h.inv hbk (bL hbt.2) s2 hbt.1;have hpa:p=⟨G.β b,boff+so.off*i.size,none⟩:=by
        obtain⟨pb,po,ps⟩:=p;simp only at g2 e2 e3;subst g2;subst e2;subst e3;rfl
       refine⟨_,_,.inl ⟨_,hrunB (run (w':=w') (λq hq=>by cases hq;rw[hpa];exact k1) (λe0=>by cases e0)),(h.step k2).putV hd (by simp only[Rv])⟩⟩
     ·cases hs
    ·cases hs
  ·cases hs
 ·cases hs
end

section
variable {P:Program}{gt:GT}{O:Orig}{S:St}{G:Gh}{w:World}{env env':Env}{a:Act}{S':St}{o:Oper}
def HasBody (P : Program) (f : FuncId) : Prop := ∃ fn, P.funcs[f]? = some fn ∧ (fn.name == "runtime.NumGoroutine") = false ∧ fn.body.isNone = false
def StepOK (P:Program)(gt:GT)(O:Orig)(o:Oper)(w:World)(a:Act)(S:St)(G:Gh):SR->Prop
 |.fail=>True
 |.done env' S'=>OpOK P gt O o w a env' S'
 |.call f xs=>HasBody P f->∃args,(execOp a.eval o).run P w=.ok (.enter f ⟨args⟩) w/\Rl S G w xs args
 |.pan v=>∃u,(execOp a.eval o).run P w=.halt (.panic u) w/\Rv S G w v u
def isCallD:DOp->Bool
 |.call .. |.callv .. |.inv .. |.pnc _=>true
 | _=>false
def plainR:SR->Prop
 |.fail=>True
 |.done _ _=>True
 | _=>False
theorem plain_val (dst:Option Nat)(x:Option AV):plainR (SR.val dst env S x):=by
 cases x<;>trivial
theorem stepO_plain (dst:Option Nat){op:DOp}(h:isCallD op=false):plainR (stepO gt dst env S op):=by
 have hb:∀(b:Bool) (x y:SR),plainR x->plainR y->plainR (bif b then x else y):=λb x y hx hy=>by cases b<;>assumption
 cases op<;>first | (cases h;done) | skip
 all_goals simp only[stepO]
 all_goals repeat' first | exact plain_val _ _ | exact trivial | apply hb | split
theorem StepOK.of {op:DOp}(hp:plainR (stepO gt o.dst env S op))(h:∀env' S',stepO gt o.dst env S op=.done env' S'->OpOK P gt O o w a env' S'):StepOK P gt O o w a S G (stepO gt o.dst env S op):=by
 cases hs:stepO gt o.dst env S op with
 | fail=>trivial
 | done env' S'=>exact h env' S' hs
 | call f xs=>rw[hs]at hp;exact hp.elim
 | pan v=>rw[hs]at hp;exact hp.elim
theorem cmpB_eq:∀(a b:List UInt8),cmpB a b=Lib.compareBytes a b
 | [],[]=>rfl
 | [],_::_=>rfl
 | _::_,[]=>rfl
 | x::a,y::b=>by
  simp only[cmpB,Lib.compareBytes];by_cases h:x=y
  ·subst h;have:¬x<x:=UInt8.lt_irrefl x;simp[this,cmpB_eq a b]
  ·have hne:Nat.beq x.toNat y.toNat=false:=by
    cases hb:Nat.beq x.toNat y.toNat
    ·rfl
    ·exact absurd (UInt8.toNat_inj.1 (bE hb)) h
   rw[hne];by_cases hl:x<y
   ·have:Nat.blt x.toNat y.toNat=true:=by
     show Nat.ble (x.toNat+1) y.toNat=true;exact Nat.ble_eq_true_of_le hl
    simp[this,hl]
   ·have hl2:y<x:=UInt8.lt_of_le_of_ne (UInt8.not_lt.1 hl) (Ne.symm h);have:Nat.blt x.toNat y.toNat=false:=by
     cases hb:Nat.blt x.toNat y.toNat
     ·rfl
     ·exact absurd (blt_lt hb) hl
    simp[this,hl,hl2]
theorem idxB_eq (c:UInt8):∀(l:List UInt8) (i:Nat),(Lib.indexByte l c=-1->idxB c l i=-1)/\(Lib.indexByte l c≠-1->idxB c l i=Lib.indexByte l c+i)
 | [],i=>⟨λ_=>rfl,λh=>absurd rfl h⟩
 | x::l,i=>by
  by_cases h:x=c
  ·subst h;have h1:Lib.indexByte (x::l) x=0:=by simp[Lib.indexByte]
   have h2:idxB x (x::l) i=i:=by simp[idxB]
   rw[h1,h2];exact⟨λh=>(by cases h),λ_=>(by omega)⟩
  ·have hne:Nat.beq x.toNat c.toNat=false:=by
    cases hb:Nat.beq x.toNat c.toNat
    ·rfl
    ·exact absurd (UInt8.toNat_inj.1 (bE hb)) h
   have h2:(x == c)=false:=by simpa using h
   have hge:=Lib.indexByte_ge l c;obtain⟨g1,g2⟩:=idxB_eq c l (i+1);have e1:idxB c (x::l) i=idxB c l (i+1):=by simp[idxB,hne]
   rw[e1];by_cases h3:Lib.indexByte l c=-1
   ·have e2:Lib.indexByte (x::l) c=-1:=by simp[Lib.indexByte,h2,h3]
    rw[e2,g1 h3];exact⟨λ_=>rfl,λh=>absurd rfl h⟩
   ·have e2:Lib.indexByte (x::l) c=Lib.indexByte l c+1:=by simp[Lib.indexByte,h2,h3]
    rw[e2,g2 h3];exact⟨λh=>(by omega),λ_=>(by push_cast;omega)⟩
theorem idxB_eq0 (c:UInt8)(l:List UInt8):idxB c l 0=Lib.indexByte l c:=by
 obtain⟨g1,g2⟩:=idxB_eq c l 0;by_cases h:Lib.indexByte l c=-1
 ·rw[g1 h,h]
 ·rw[g2 h];simp
def extE:ExtK->Array Value->Sem Value
 |.indexByte=>Extern.BytealgIndexByte.indexByte
 |.compare=>Extern.BytealgCompare.compare
 |.noEscape=>Extern.AbiNoEscape.same
theorem noNext (n : String) (h : (Extern.allNextRows.lookup n).isNone = true) (h0 : (Extern.allNextRows.lookup "").isNone = true) {fn : Func} (hn : fn.name = n) (ho : fn.origin = "") : Extern.findNext fn = none := by
 unfold Extern.findNext;rw[Option.isNone_iff_eq_none]at h h0;simp only[hn,ho,h,h0];rfl
theorem noNext0 : (Extern.allNextRows.lookup "").isNone = true := by kernel_rfl
theorem noNext1 : (Extern.allNextRows.lookup "internal/bytealg.IndexByteString").isNone = true := by kernel_rfl
theorem noNext2 : (Extern.allNextRows.lookup "internal/bytealg.abigen_runtime_cmpstring").isNone = true := by kernel_rfl
theorem noNext3 : (Extern.allNextRows.lookup "internal/abi.NoEscape").isNone = true := by kernel_rfl
theorem find_by (n:String){e:Array Value->Sem Value}(h1:(Extern.allGenericRows.lookup n).isNone=true)(h2:(Extern.allTypedRows.lookup n).isNone=true)(h3:Extern.allRows.lookup n=some e){fn:Func}(hn:fn.name=n):Extern.find fn=some e:=by
 unfold Extern.find;rw[Option.isNone_iff_eq_none]at h1 h2;simp only[hn,h1,h2,h3];rfl
theorem f1a : (Extern.allGenericRows.lookup "internal/bytealg.IndexByteString").isNone = true := by kernel_rfl
theorem f1b : (Extern.allTypedRows.lookup "internal/bytealg.IndexByteString").isNone = true := by kernel_rfl
theorem f1c : Extern.allRows.lookup "internal/bytealg.IndexByteString" = some Extern.BytealgIndexByte.indexByte := by kernel_rfl
theorem f2a : (Extern.allGenericRows.lookup "internal/bytealg.abigen_runtime_cmpstring").isNone = true := by kernel_rfl
theorem f2b : (Extern.allTypedRows.lookup "internal/bytealg.abigen_runtime_cmpstring").isNone = true := by kernel_rfl
theorem f2c : Extern.allRows.lookup "internal/bytealg.abigen_runtime_cmpstring" = some Extern.BytealgCompare.compare := by kernel_rfl
theorem f3a : (Extern.allGenericRows.lookup "internal/abi.NoEscape").isNone = true := by kernel_rfl
theorem f3b : (Extern.allTypedRows.lookup "internal/abi.NoEscape").isNone = true := by kernel_rfl
theorem f3c : Extern.allRows.lookup "internal/abi.NoEscape" = some Extern.AbiNoEscape.same := by kernel_rfl
theorem extP_sound {f : FuncId} {e : ExtK} (h : extP P f = some (some e)) : ∃ fn, P.funcs[f]? = some fn ∧ (fn.name == "runtime.NumGoroutine") = false ∧ fn.body.isNone = true ∧ Extern.findNext fn = none ∧ Extern.find fn = some (extE e) := by
 unfold extP at h;split at h
 ·rename_i fn hfn;split at h
  ·cases h
  ·rename_i hng;split at h
   ·simp at h
   ·rename_i hb;split at h
    ·rename_i ho;have ho : fn.origin = "" := by simpa using ho
     refine⟨fn,hfn,by simpa using hng,by simpa using hb,?_⟩;split at h
     ·rename_i hn;have hn : fn.name = "internal/bytealg.IndexByteString" := by simpa using hn
      simp only[oI]at h;subst h;exact⟨noNext _ noNext1 noNext0 hn ho,find_by _ f1a f1b f1c hn⟩
     ·split at h
      ·rename_i hn;have hn : fn.name = "internal/bytealg.abigen_runtime_cmpstring" := by simpa using hn
       simp only[oI]at h;subst h;exact⟨noNext _ noNext2 noNext0 hn ho,find_by _ f2a f2b f2c hn⟩
      ·split at h
       ·rename_i hn;have hn : fn.name = "internal/abi.NoEscape" := by simpa using hn
        simp only[oI]at h;subst h;exact⟨noNext _ noNext3 noNext0 hn ho,find_by _ f3a f3b f3c hn⟩
       ·cases h
    ·cases h
 ·cases h
theorem so_xtn (h:Good P gt O S G w env a)(hd:∀d,o.dst=some d->O.N.ok d){c:Call}{f:FuncId}{e:ExtK}{ts:List TypeId}{dxs:List DOpd}(hop:o.op=.call c)(hc:c.callee=.value (.func f))(he:extP P f=some (some e))(hx:opdsP P ts c.args.toList=some dxs)
  (hs:stepO gt o.dst env S (.xtn e dxs)=.done env' S'):OpOK P gt O o w a env' S':=by
 obtain⟨fb,hf⟩:=h.fr;simp only[stepO]at hs;split at hs
 ·rename_i vs hvs;have rx:=opds_sound hf hx hvs;obtain⟨fn,k1,k2,k3,k4,k5⟩:=extP_sound he;refine ok_val' h hd hs λy hy=>?_;have hrun:∀{v:Value},(extE e (c.args.map a.eval)).run P w=.ok v w->(execOp a.eval o).run P w=.ok (.value v) w:=λ{v} hq=>by
   have hres:(resolve a.eval c o.type).run P w=.ok { target:=.fn (.func f) #[],args:=c.args.map a.eval } w:=by
    simp[resolve,hc,Deferred.ofValue,Act.eval]
   simp only [execOp,hop,Sem.run_bind,hres,Result.andThen_ok,invoke,Array.append_empty];have k2' : ¬ fn.name = "runtime.NumGoroutine" := by simpa using k2
   have k3':fn.body=none:=by simpa using k3
   have hm:Sem.run P (Sem.mark (.extern f) (Sem.pure ())) w=.ok () w:=rfl;simp[callFunc,k1,k2',k3',k4,k5,hq,mark,hm]
  have hargs:c.args.map a.eval=⟨c.args.toList.map a.eval⟩:=by
   apply Array.ext';simp
  rw[hargs]at hrun;unfold xtnV at hy;split at hy
  ·rename_i s b;simp only[oI]at hy;subst hy;simp only[Rl]at rx;obtain⟨v1,r1,q1,p1,v2,r2,q2,p2,q3⟩:=rx;simp only[Rv]at p1 p2;subst q3;subst q2;subst p1;subst p2;refine⟨.int .i64 (idxB (UInt8.ofNat b.toNat) s 0),by simp only[Rv],hrun ?_⟩;rw[q1];have:=Lib.run_indexByteString (P:=P) ⟨⟨s⟩⟩ b w;rw[idxB_eq0];exact this
  ·rename_i x y;simp only[oI]at hy;subst hy;simp only[Rl]at rx;obtain⟨v1,r1,q1,p1,v2,r2,q2,p2,q3⟩:=rx;simp only[Rv]at p1 p2;subst q3;subst q2;subst p1;subst p2;refine⟨.int .i64 (cmpB x y),by simp only[Rv],hrun ?_⟩;rw[q1];have:=Lib.run_compareString (P:=P) ⟨⟨x⟩⟩ ⟨⟨y⟩⟩ w;rw[cmpB_eq];exact this
  ·rename_i x;simp only[oI]at hy;subst hy;simp only[Rl]at rx;obtain⟨v1,r1,q1,p1,q3⟩:=rx;subst q3;refine⟨_,p1,hrun ?_⟩;rw[q1];rfl
  ·cases hy
 ·cases hs
end

section
variable {P:Program}{gt:GT}{O:Orig}{S:St}{G:Gh}{w:World}{env env':Env}{a:Act}{S':St}{o:Oper}
theorem run_enter {f:FuncId}(hb:HasBody P f)(args:Array Value):(callFunc f args).run P w=.ok (.enter f args) w:=by
 obtain⟨fn,h1,h2,h3⟩:=hb;have h2 : ¬ fn.name = "runtime.NumGoroutine" := by simpa using h2
 have h3:¬fn.body=none:=by
  intro e;rw[e]at h3;cases h3
 simp[callFunc,h1,h2,h3]
theorem args_eq (c:Call):c.args.map a.eval=⟨c.args.toList.map a.eval⟩:=by
 apply Array.ext';simp
theorem so_call (h:Good P gt O S G w env a){c:Call}{f:FuncId}{ts:List TypeId}{dxs:List DOpd}(hop:o.op=.call c)(hc:c.callee=.value (.func f))(hx:opdsP P ts c.args.toList=some dxs) :
  StepOK P gt O o w a S G (stepO gt o.dst env S (.call f dxs)):=by
 obtain⟨fb,hf⟩:=h.fr;simp only[stepO];split
 ·rename_i vs hvs;intro hb;refine⟨c.args.toList.map a.eval,?_,opds_sound hf hx hvs⟩;have hres:(resolve a.eval c o.type).run P w=.ok { target:=.fn (.func f) #[],args:=c.args.map a.eval } w:=by
   simp[resolve,hc,Deferred.ofValue,Act.eval]
  simp only[execOp,hop,Sem.run_bind,hres,Result.andThen_ok,invoke,Array.append_empty,run_enter hb,args_eq]
 ·trivial
theorem so_callv (h:Good P gt O S G w env a){c:Call}{x:Operand}{t:TypeId}{ts:List TypeId}{dx:DOpd}{dxs:List DOpd}(hop:o.op=.call c)(hc:c.callee=.value x)(hx0:opdP P t x=some dx)(hx:opdsP P ts c.args.toList=some dxs) :
  StepOK P gt O o w a S G (stepO gt o.dst env S (.callv dx dxs)):=by
 obtain⟨fb,hf⟩:=h.fr;simp only[stepO];split
 ·rename_i f fs cs vs hxa hvs;intro hb;have rx:=opd_sound hx0 hxa hf;simp only[Rv]at rx;obtain⟨ua,ub,r1,r2,r3⟩:=rx;refine⟨ua++c.args.toList.map a.eval++ub,?_,(r2.append (opds_sound hf hx hvs)).append r3⟩;have hres:(resolve a.eval c o.type).run P w=.ok { target:=.fn (.func f) ⟨ub⟩,args:=⟨ua⟩++c.args.map a.eval } w:=by
   simp[resolve,hc,Deferred.ofValue,r1]
  simp only[execOp,hop,Sem.run_bind,hres,Result.andThen_ok,invoke,run_enter hb,args_eq]
  congr 2
  simp
 ·trivial
theorem so_pnc (h:Good P gt O S G w env a){x:Operand}{t:TypeId}{dx:DOpd}(hop:o.op=.panic x)(hx:opdP P t x=some dx) :
  StepOK P gt O o w a S G (stepO gt o.dst env S (.pnc dx)):=by
 obtain⟨fb,hf⟩:=h.fr;simp only[stepO];split
 ·rename_i t v hxa;have rx:=opd_sound hx hxa hf;refine⟨a.eval x,?_,rx⟩;simp only[Rv]at rx;obtain⟨u,r1,_⟩:=rx;simp only[execOp,hop,Sem.run_bind,r1,Instr.panic];rfl
 ·trivial
theorem callP_sound (h:Good P gt O S G w env a)(hd:∀d,o.dst=some d->O.N.ok d){c:Call}{op:DOp}(hop:o.op=.call c)(hp:callP P c o.type=some op) :
  StepOK P gt O o w a S G (stepO gt o.dst env S op):=by
 unfold callP at hp;split at hp
 ·rename_i f hc;split at hp
  ·rename_i xs he hx;simp only[oI]at hp;subst hp;exact so_call h hop hc hx
  ·rename_i e xs he hx;simp only[oI]at hp;subst hp;exact .of (stepO_plain _ rfl) λ_ _ hs=>so_xtn h hd hop hc he hx hs
  ·cases hp
 ·rename_i x _ hc;split at hp
  ·rename_i xs hx;cases hx0:opdP P o.type x with
   | none=>rw[hx0]at hp;cases hp
   | some dx =>
    rw[hx0]at hp;simp only[Option.bind_some,oI]at hp;subst hp;exact so_callv h hop hc hx0 hx
  ·cases hp
 ·cases hp
 ·rename_i b hc;have hts:∀{l:List TypeId},c.argTypes.toList=l->c.argTypes=⟨l⟩:=λe=>Array.ext' e;have has:∀{l:List Operand},c.args.toList=l->c.args=⟨l⟩:=λe=>Array.ext' e;split at hp
  ·rename_i t x ht ha;have ht:=hts ht;have ha:=has ha;split at hp
   ·rename_i hu;cases hx:opdP P t x with
    | none=>rw[hx]at hp;cases hp
    | some dx =>
     rw[hx]at hp;simp only[Option.map_some,oI]at hp;subst hp;exact .of (stepO_plain _ rfl) λ_ _ hs=>so_lenS h hd hop hc ht ha hu hx hs
   ·rename_i e hu;cases hx:opdP P t x with
    | none=>rw[hx]at hp;cases hp
    | some dx =>
     rw[hx]at hp;simp only[Option.map_some,oI]at hp;subst hp;exact .of (stepO_plain _ rfl) λ_ _ hs=>so_len h hd hop hc ht ha hu hx hs
   ·rename_i kt e hu;cases hx:opdP P t x with
    | none=>rw[hx]at hp;cases hp
    | some dx =>
     rw[hx]at hp;simp only[Option.map_some,oI]at hp;subst hp;exact .of (stepO_plain _ rfl) λ_ _ hs=>so_lenM h hd hop hc ht ha hu hx hs
   ·rename_i n e hu;simp only[oI]at hp;subst hp;exact .of (stepO_plain _ rfl) λ_ _ hs=>so_lenC h hd hop hc ht ha hu hs
   ·cases hp
  ·rename_i t u x y ht ha;have ht:=hts ht;have ha:=has ha;have key:∀{e:TypeId} {dd:TypeDesc},P.underlying t=some (.slice e)->P.underlying u=some dd->(∀k,dd≠.int k) ->
     (match isAggP P e,P.info? e,opdP P t x,opdP P u y,elemC P e with
      | some a,some i,some x,some y,some z=>if z.cells.length=i.size then some (DOp.app a e i.size i.bytes x y) else none
      | _,_,_,_,_=>none)=some op->StepOK P gt O o w a S G (stepO gt o.dst env S op):=λhu hu2 hdd hp=>by
    split at hp
    ·rename_i g i dx dy z hg hi hx hy hz;split at hp
     ·rename_i hzl;simp only[oI]at hp;subst hp;exact .of (stepO_plain _ rfl) λ_ _ hs=>so_app h hd hop hc ht ha hu hu2 hdd hi hz hzl hx hy hs
     ·cases hp
    ·cases hp
   split at hp
   ·rename_i e e2 hu hu2;exact key hu hu2 (λk hk=>by cases hk) hp
   ·rename_i e hu hu2;exact key hu hu2 (λk hk=>by cases hk) hp
   ·cases hp
  ·rename_i t x ht ha;have ht:=hts ht;have ha:=has ha;split at hp
   ·rename_i e hu;split at hp
    ·cases hx:opdP P t x with
     | none=>rw[hx]at hp;cases hp
     | some dx =>
      rw[hx]at hp;simp only[Option.map_some,oI]at hp;subst hp;exact .of (stepO_plain _ rfl) λ_ _ hs=>so_usd h hd hop hc ht ha hx hs
    ·cases hp
   ·cases hp
  ·rename_i t u x n ht ha;have ht:=hts ht;have ha:=has ha;split at hp
   ·rename_i e hu;split at hp
    ·rename_i dx dn hsz hx hn;simp only[oI]at hp;subst hp;exact .of (stepO_plain _ rfl) λ_ _ hs=>so_ustr h hd hop hc ht ha hu hsz hx hn hs
    ·cases hp
   ·cases hp
  ·rename_i t u x y ht ha;have ht:=hts ht;have ha:=has ha;split at hp
   ·rename_i e hu;split at hp
    ·rename_i i dx dy hi hx hy;simp only[oI]at hp;subst hp;exact .of (stepO_plain _ rfl) λ_ _ hs=>so_cpy h hd hop hc ht ha hu hi hx hy hs
    ·cases hp
   ·cases hp
  ·cases hx:opdsP P c.argTypes.toList c.args.toList with
   | none=>rw[hx]at hp;cases hp
   | some dx =>
    rw[hx]at hp;simp only[Option.map_some,oI]at hp;subst hp;exact .of (stepO_plain _ rfl) λ_ _ hs=>so_mx h hd hop hc hx hs
  ·cases hx:opdsP P c.argTypes.toList c.args.toList with
   | none=>rw[hx]at hp;cases hp
   | some dx =>
    rw[hx]at hp;simp only[Option.map_some,oI]at hp;subst hp;exact .of (stepO_plain _ rfl) λ_ _ hs=>so_mn h hd hop hc hx hs
  ·cases hp
theorem map_some' {α β:Type}{f:α->β}{x:Option α}{y:β}(h:x.map f=some y):∃z,x=some z/\f z=y:=by
 cases x with
 | none=>cases h
 | some z=>exact⟨z,rfl,by simpa using h⟩
theorem convP_sound (h:Good P gt O S G w env a)(hd:∀d,o.dst=some d->O.N.ok d){s t:TypeId}{x:Operand}{op:DOp}(hop:o.op=.convert s t x)(hp:convP P s t x=some op) :
  StepOK P gt O o w a S G (stepO gt o.dst env S op):=by
 unfold convP at hp;split at hp
 ·rename_i k0 k hu hv;obtain⟨dx,hx,rfl⟩:=map_some' hp;exact .of (stepO_plain _ rfl) λ_ _ hs=>so_cvI h hd hop hu hv hx hs
 ·rename_i hu hv;obtain⟨dx,hx,rfl⟩:=map_some' hp;exact .of (stepO_plain _ rfl) λ_ _ hs=>so_cvId h hd hop hu hv hx hs
 ·rename_i hu hv;obtain⟨dx,hx,rfl⟩:=map_some' hp;exact .of (stepO_plain _ rfl) λ_ _ hs=>so_cvRS h hd hop hu hv hx hs
 ·rename_i e hu hv;split at hp
  ·rename_i he;obtain⟨dx,hx,rfl⟩:=map_some' hp;exact .of (stepO_plain _ rfl) λ_ _ hs=>so_cvBS h hd hop hu hv he hx hs
  ·cases hp
 ·rename_i e hu hv;split at hp
  ·rename_i he;split at hp
   ·rename_i hsz;obtain⟨dx,hx,rfl⟩:=map_some' hp;exact .of (stepO_plain _ rfl) λ_ _ hs=>so_cvSB h hd hop hu hv he hsz hx hs
   ·cases hp
  ·cases hp
 ·rename_i e hu hv;split at hp
  ·rename_i n hsz;obtain⟨dx,hx,rfl⟩:=map_some' hp;exact .of (stepO_plain _ rfl) λ_ _ hs=>so_cvU h hd hop hu hv hsz hx hs
  ·cases hp
 ·rename_i u hu hv;split at hp
  ·rename_i n hsz;obtain⟨dx,hx,rfl⟩:=map_some' hp;exact .of (stepO_plain _ rfl) λ_ _ hs=>so_cvP h hd hop hu hv hsz hx hs
  ·cases hp
 ·cases hp
theorem ite_plain (b:Bool)(x y:DOp)(hx:isCallD x=false)(hy:isCallD y=false):isCallD (if b=true then x else y)=false:=by cases b<;>simpa
theorem stepO_sound (h:Good P gt O S G w env a)(hd:∀d,o.dst=some d->O.N.ok d){locs:List Nat}{tk:Bool}{op:DOp}(hp:prepO P locs tk o=some op) :
  StepOK P gt O o w a S G (stepO gt o.dst env S op):=by
 cases hop:o.op with
 | move x =>
  simp only[prepO,hop]at hp;obtain⟨dx,hx,rfl⟩:=map_some' hp;exact .of (stepO_plain _ rfl) λ_ _ hs=>so_move h hd (.inl hop) hx hs
 | assign x =>
  simp only[prepO,hop]at hp;obtain⟨dx,hx,rfl⟩:=map_some' hp;exact .of (stepO_plain _ rfl) λ_ _ hs=>so_move h hd (.inr hop) hx hs
 | pick c x y =>
  simp only[prepO,hop]at hp;split at hp
  ·rename_i dc dx dy hc hx hy;simp only[oI]at hp;subst hp;exact .of (stepO_plain _ rfl) λ_ _ hs=>so_pick h hd hop hc hx hy hs
  ·cases hp
 | alloc e =>
  simp only[prepO,hop]at hp;obtain⟨z,hz,rfl⟩:=map_some' hp;exact .of (stepO_plain _ (ite_plain _ _ _ rfl rfl)) λ_ _ hs=>so_alloc h hd hop hz hs
 | box e x =>
  simp only[prepO,hop]at hp;obtain⟨dx,hx,rfl⟩:=map_some' hp;exact .of (stepO_plain _ (ite_plain _ _ _ rfl rfl)) λ_ _ hs=>so_box h hd hop hx hs
 | build t ps =>
  simp only[prepO,hop]at hp;split at hp
  ·rename_i z fs hz hu;split at hp
   ·rename_i hall;obtain⟨dps,hps,rfl⟩:=map_some' hp;exact .of (stepO_plain _ rfl) λ_ _ hs=>so_build h hd hop hz (.inl ⟨fs,hu,hall,hps⟩) hs
   ·cases hp
  ·rename_i z n e hz hu;split at hp
   ·rename_i s hsz;obtain⟨dps,hps,rfl⟩:=map_some' hp;exact .of (stepO_plain _ rfl) λ_ _ hs=>so_build h hd hop hz (.inr ⟨n,e,s,hu,hsz,hps⟩) hs
   ·cases hp
  ·cases hp
 | buildSlice t n ps =>
  simp only[prepO,hop]at hp;split at hp
  ·rename_i e hu;split at hp
   ·rename_i s z dps hsz hz hps;split at hp
    ·rename_i hc;simp only[oI]at hp;subst hp;exact .of (stepO_plain _ (ite_plain _ _ _ rfl rfl)) λ_ _ hs=>so_bldSl h hd hop hu hsz hz hps hc.1 hc.2.1 hc.2.2 hs
    ·cases hp
   ·cases hp
  ·cases hp
 | load t x =>
  simp only[prepO,hop]at hp;split at hp
  ·rename_i g s dx hg hsz hx;split at hp
   ·rename_i hgs;simp only[oI]at hp;subst hp;exact .of (stepO_plain _ rfl) λ_ _ hs=>so_load h hd hop hg hsz hx hgs hs
   ·cases hp
  ·cases hp
 | store t x y =>
  simp only[prepO,hop]at hp;split at hp
  ·rename_i s dx dy hsz hx hy;simp only[oI]at hp;subst hp;exact .of (stepO_plain _ rfl) λ_ _ hs=>so_store h hd hop hsz hx hy hs
  ·cases hp
 | nilCheck x =>
  simp only[prepO,hop]at hp;obtain⟨dx,hx,rfl⟩:=map_some' hp;exact .of (stepO_plain _ rfl) λ_ _ hs=>so_nilCheck h hd hop hx hs
 | binOp bop t x y u =>
  simp only[prepO,hop]at hp;split at hp
  ·rename_i dx dy hx hy;split at hp
   ·simp only[oI]at hp;subst hp;exact .of (stepO_plain _ rfl) λ_ _ hs=>so_bin h hd hop hx hy (λ_=>rfl) hs
   ·simp only[oI]at hp;subst hp;exact .of (stepO_plain _ rfl) λ_ _ hs=>so_bin h hd hop hx hy (λ_=>rfl) hs
   ·rename_i h1 h2;simp only[oI]at hp;subst hp;exact .of (stepO_plain _ rfl) λ_ _ hs=>so_bin h hd hop hx hy (λhq=>by rcases hq with hq | hq<;>subst hq<;>simp at h1 h2) hs
  ·cases hp
 | unOp uop t x =>
  simp only[prepO,hop]at hp;obtain⟨dx,hx,rfl⟩:=map_some' hp;exact .of (stepO_plain _ rfl) λ_ _ hs=>so_un h hd hop hx hs
 | convert s t x =>
  simp only[prepO,hop]at hp;exact convP_sound h hd hop hp
 | makeInterface t x =>
  simp only[prepO,hop]at hp;split at hp
  ·cases hp
  ·rename_i td hni hu;obtain⟨dx,hx,rfl⟩:=map_some' hp;exact .of (stepO_plain _ rfl) λ_ _ hs=>so_mki h hd hop hu (λms hq=>by subst hq;exact hni _ rfl) hx hs
  ·cases hp
 | makeFunc f fs cs =>
  cases f<;>simp only[prepO,hop]at hp<;>first | (cases hp;done) | skip
  split at hp
  ·rename_i df dc hf hc;simp only[oI]at hp;subst hp;exact .of (stepO_plain _ rfl) λ_ _ hs=>so_mkf h hd hop hf hc hs
  ·cases hp
 | makeMap t r =>
  cases r with
  | some x=>simp only[prepO,hop]at hp;cases hp
  | none =>
   simp only[prepO,hop]at hp;split at hp
   ·simp only[oI]at hp;subst hp;exact .of (stepO_plain _ rfl) λ_ _ hs=>so_mkm h hd hop hs
   ·cases hp
 | makeSlice t x y =>
  simp only[prepO,hop]at hp;split at hp
  ·rename_i e hu;split at hp
   ·rename_i i z dx dy hi hz hx hy;split at hp
    ·rename_i hs0;simp only[oI]at hp;subst hp;cases tk with
     | true=>exact .of (stepO_plain _ rfl) λ_ _ hs=>so_mks h hd hop hu hi hz hx hy hs0 hs
     | false=>exact .of (stepO_plain _ rfl) λ_ _ hs=>so_mksS h hd hop hu hi hz hx hy hs0 hs
    ·cases hp
   ·cases hp
  ·cases hp
 | slice t x lo hi mx =>
  simp only[prepO,hop]at hp;split at hp
  ·rename_i hu;split at hp
   ·rename_i dx dlo dhi hx hlo hhi;simp only[oI]at hp;subst hp;exact .of (stepO_plain _ rfl) λ_ _ hs=>so_slS h hd hop hu hx hlo hhi hs
   ·cases hp
  ·rename_i e hu;split at hp
   ·rename_i s dx dlo dhi dmx hsz hx hlo hhi hmx;split at hp
    ·cases hp
    ·rename_i hmh;simp only[oI]at hp;subst hp;refine .of (stepO_plain _ rfl) λ_ _ hs=>so_slA h hd hop hu hsz hx hlo hhi hmx (λhm=>?_) hs;have h1:dmx.isSome=true:=by
      cases mx with
      | none=>cases hm
      | some m=>simp only[opdO]at hmx;obtain⟨q,_,rfl⟩:=map_some' hmx;rfl
     cases hi with
     | some q=>rfl
     | none=>simp only[opdO,oI]at hhi;subst hhi;simp[h1]at hmh
   ·cases hp
  ·rename_i n e hu;split at hp
   ·rename_i s dx dlo dhi hsz hx hlo hhi;simp only[oI]at hp;subst hp;exact .of (stepO_plain _ rfl) λ_ _ hs=>so_slP h hd hop hu hsz hx hlo hhi hs
   ·cases hp
  ·cases hp
 | fieldAddr t x k =>
  simp only[prepO,hop]at hp;split at hp
  ·rename_i fs hu;split at hp
   ·rename_i f hf;split at hp
    ·rename_i n dx hsz hx;simp only[oI]at hp;subst hp;exact .of (stepO_plain _ rfl) λ_ _ hs=>so_fieldAddr h hd hop hu hf hsz hx hs
    ·cases hp
   ·cases hp
  ·cases hp
 | field t x k =>
  simp only[prepO,hop]at hp;split at hp
  ·rename_i fs hu;split at hp
   ·rename_i f hf;split at hp
    ·rename_i g s dx hg hsz hx;split at hp
     ·simp only[oI]at hp;subst hp;exact .of (stepO_plain _ rfl) λ_ _ hs=>so_field h hd hop hu hf hg hsz hx hs
     ·cases hp
    ·cases hp
   ·cases hp
  ·cases hp
 | indexAddr t x i =>
  simp only[prepO,hop]at hp;split at hp
  ·rename_i e hu;split at hp
   ·rename_i s dx di hsz hx hi;split at hp
    ·simp only[oI]at hp;subst hp;exact .of (stepO_plain _ rfl) λ_ _ hs=>so_indexAddrS h hd hop hu hsz hx hi hs
    ·cases hp
   ·cases hp
  ·rename_i n e hu;split at hp
   ·rename_i s dx di hsz hx hi;simp only[oI]at hp;subst hp;exact .of (stepO_plain _ rfl) λ_ _ hs=>so_indexAddrA h hd hop hu hsz hx hi hs
   ·cases hp
  ·cases hp
 | index t x i =>
  simp only[prepO,hop]at hp;split at hp
  ·rename_i hu;split at hp
   ·rename_i dx di hx hi;simp only[oI]at hp;subst hp;exact .of (stepO_plain _ rfl) λ_ _ hs=>so_indexS h hd hop hu hx hi hs
   ·cases hp
  ·rename_i n e hu;split at hp
   ·rename_i g s dx di hg hsz hx hi;split at hp
    ·simp only[oI]at hp;subst hp;exact .of (stepO_plain _ rfl) λ_ _ hs=>so_indexA h hd hop hu hg hsz hx hi hs
    ·cases hp
   ·cases hp
  ·cases hp
 | lookup t m k ok =>
  simp only[prepO,hop]at hp;split at hp
  ·rename_i kt e hu;split at hp
   ·rename_i q z dm dk hk hz hm hkk;simp only[oI]at hp;subst hp;exact .of (stepO_plain _ rfl) λ_ _ hs=>so_lkp h hd hop hu hk hz hm hkk hs
   ·cases hp
  ·cases hp
 | mapUpdate t m k x =>
  simp only[prepO,hop]at hp;split at hp
  ·rename_i kt e hu;split at hp
   ·rename_i q dm dk dx hk hm hkk hx;simp only[oI]at hp;subst hp;exact .of (stepO_plain _ rfl) λ_ _ hs=>so_mup h hd (.inl hop) hu hk hm hkk hx hs
   ·cases hp
  ·cases hp
 | insert t m k x =>
  simp only[prepO,hop]at hp;split at hp
  ·rename_i kt e hu;split at hp
   ·rename_i q dm dk dx hk hm hkk hx;simp only[oI]at hp;subst hp;exact .of (stepO_plain _ rfl) λ_ _ hs=>so_mup h hd (.inr hop) hu hk hm hkk hx hs
   ·cases hp
  ·cases hp
 | mapEntry t m k =>
  simp only[prepO,hop]at hp;split at hp
  ·rename_i kt e hu;split at hp
   ·rename_i q z dm dk hk hz hm hkk;simp only[oI]at hp;subst hp;exact .of (stepO_plain _ rfl) λ_ _ hs=>so_mpe h hd hop hu hk hz hm hkk hs
   ·cases hp
  ·cases hp
 | entryStore t m s x =>
  simp only[prepO,hop]at hp;split at hp
  ·rename_i kt e hu;split at hp
   ·rename_i dm ds dx hm hss hx;simp only[oI]at hp;subst hp;exact .of (stepO_plain _ rfl) λ_ _ hs=>so_ens h hd hop hu hm hss hx hs
   ·cases hp
  ·cases hp
 | typeAssert x xt t ok =>
  simp only[prepO,hop]at hp;split at hp
  ·cases hp
  ·rename_i td hni hu;split at hp
   ·rename_i z dx hz hx;simp only[oI]at hp;subst hp;exact .of (stepO_plain _ rfl) λ_ _ hs=>so_tas h hd hop hu (λms hq=>by subst hq;exact hni _ rfl) hz hx hs
   ·cases hp
  ·cases hp
 | extract x i =>
  simp only[prepO,hop]at hp;obtain⟨dx,hx,rfl⟩:=map_some' hp;exact .of (stepO_plain _ rfl) λ_ _ hs=>so_ext h hd hop hx hs
 | call c =>
  simp only[prepO,hop]at hp;exact callP_sound h hd hop hp
 | panic x =>
  simp only[prepO,hop]at hp;obtain⟨dx,hx,rfl⟩:=map_some' hp;exact so_pnc h hop hx
 | _=>simp only[prepO,hop]at hp;cases hp
end

def callPost (P:Program)(gt:GT)(S:St)(G:Gh)(w:World)(Q:Res->St->Prop):Ending->World->Prop
 |.returned v,w'=>∃x S' G',Q (.ret x) S'/\Tr P gt S G w S' G' w'/\Rv S' G' w' x v
 |.panicked chain,w'=>∃x S' G' u,chain=[{ v:=u,recovered:=false }]/\Q (.pan x) S'/\Tr P gt S G w S' G' w'/\Rv S' G' w' x u
 |.outgrown,_=>False
def AC (P:Program)(gt:GT)(f:FuncId)(xs:List AV)(S:St)(Q:Res->St->Prop):Prop :=
 HasBody P f/\∀G w args,Inv P gt S G w->Rl S G w xs args->Calls P f ⟨args⟩ w (callPost P gt S G w Q)
def Qc (P:Program)(gt:GT)(O:Orig)(QD:Ex->Env->St->Prop):Exit->Act->World->Prop
 |.normal,a,w=>∃env S G,Good P gt O S G w env a/\QD .normal env S
 |.ret,a,w=>∃env S G,Good P gt O S G w env a/\QD .ret env S
 |.exit id,a,w=>∃env S G,Good P gt O S G w env a/\QD (.exit id) env S
 |.panic chain,a,w=>∃env S G x u,chain=[{ v:=u,recovered:=false }]/\Good P gt O S G w env a/\Rv S G w x u/\QD (.pan x) env S
 | _,_,_=>False
section
variable {P:Program}{gt:GT}{O:Orig}
theorem Qc.mono {Q1 Q2:Ex->Env->St->Prop}(h:∀S G w env a e,Good P gt O S G w env a->Q1 e env S->∃env',Good P gt O S G w env' a/\Q2 e env' S):∀e a w,Qc P gt O Q1 e a w->Qc P gt O Q2 e a w
 |.normal,a,w,⟨env,S,G,g,q⟩=>let ⟨env',g',q'⟩:=h _ _ _ _ _ _ g q;⟨env',S,G,g',q'⟩
 |.ret,a,w,⟨env,S,G,g,q⟩=>let ⟨env',g',q'⟩:=h _ _ _ _ _ _ g q;⟨env',S,G,g',q'⟩
 |.exit _,a,w,⟨env,S,G,g,q⟩=>let ⟨env',g',q'⟩:=h _ _ _ _ _ _ g q;⟨env',S,G,g',q'⟩
 |.panic _,a,w,⟨env,S,G,x,u,hc,g,r,q⟩=>let ⟨env',g',q'⟩:=h _ _ _ _ _ _ g q;⟨env',S,G,x,u,hc,g',r,q'⟩
theorem afterS_ok {S:St}{G:Gh}{w:World}{env:Env}{a:Act}{o:Oper}{next:Act->World->Prop}{QD:Ex->Env->St->Prop}{K:Env->St->Prop}{r:SR}(h:Good P gt O S G w env a)(hd:∀d,o.dst=some d->O.N.ok d)
  (hs:StepOK P gt O o w a S G r) (ha:afterS (AC P gt) o.dst env S K QD r)
  (hn:∀env' S' G' w' a',Good P gt O S' G' w' env' a'->K env' S'->next a' w'):o.wp P a w next (Qc P gt O QD):=by
 cases r with
 | fail=>exact ha.elim
 | done env' S' =>
  obtain⟨w',G',⟨v,hr,hg⟩ | ⟨hr,hg⟩⟩:=hs
  ·simp only[Oper.wp,hr,Oper.upon_value];exact hn _ _ _ _ _ hg ha
  ·simp only[Oper.wp,hr,Oper.upon_skip];exact hn _ _ _ _ _ hg ha
 | call f xs =>
  obtain⟨hb,hc⟩:=ha;obtain⟨args,hr,hx⟩:=hs hb;simp only[Oper.wp,hr,Oper.upon_enter];refine Calls.mono (hc G w args h.inv hx) λe w' hp=>?_;cases e with
  | returned v =>
   obtain⟨x,S',G',q,t,rv⟩:=hp;exact hn _ _ _ _ _ ((h.step t).putV hd rv) q
  | panicked chain =>
   obtain⟨x,S',G',u,hch,q,t,rv⟩:=hp;exact⟨env,S',G',x,u,hch,h.step t,rv,q⟩
  | outgrown=>exact hp.elim
 | pan v =>
  obtain⟨u,hr,rv⟩:=hs;simp only[Oper.wp,hr,Oper.upon_panic];exact⟨env,S,G,v,u,rfl,h,rv,ha⟩
theorem prepI_inv {locs:List Nat}{tk:Bool}{ops:Array Oper}{o:Oper}{N:Lim}{i:DI}(h:prepI P N locs tk ops o=some i) :
  (∀d,o.dst=some d->N.ok d)/\i.dst=o.dst/\prepO P locs tk o=some i.op/\match o.guard with
   | none=>i.guard=none
   | some (j,want)=>∃d,(ops[j]?).bind (·.dst)=some d/\i.guard=some (d,want):=by
 unfold prepI at h;split at h
 ·cases h
 ·rename_i hd;have hd:∀d,o.dst=some d->N.ok d:=λd e=>by
   rw[e]at hd;simp only[dstOK,Bool.not_eq_false,bA]at hd;exact⟨blt_lt hd.1,λt ht=>by
    have:=List.all_eq_true.1 hd.2 t ht;intro e;subst e;rw[Nat.beq_refl]at this;cases this⟩
  split at h
  ·rename_i op hp;split at h
   ·rename_i hg;simp only[oI]at h;subst h;exact⟨hd,rfl,hp,by rw[hg]⟩
   ·rename_i j want hg;split at h
    ·rename_i d hj;simp only[oI]at h;subst h;exact⟨hd,rfl,hp,by rw[hg];exact⟨d,hj,rfl⟩⟩
    ·cases h
  ·cases h
theorem stepI_ok {S:St}{G:Gh}{w:World}{env:Env}{a:Act}{o:Oper}{ops:Array Oper}{i:DI}{N:Lim}{locs:List Nat}{tk:Bool}(h:Good P gt O S G w env a)(hN:O.N=N)(hp:prepI P N locs tk ops o=some i){QD:Ex->Env->St->Prop}{K:Env->St->Prop}{next:Act->World->Prop}
  (ha:afterS (AC P gt) i.dst env S K QD (stepI gt i env S))
  (hn:∀env' S' G' w' a',Good P gt O S' G' w' env' a'->K env' S'->next a' w') :
  if Region.wanted o (yielded ops a.tmps) then o.wp P a w next (Qc P gt O QD) else next (a.put o.dst undef) w:=by
 obtain⟨hd,h1,h2,h3⟩:=prepI_inv hp;rw[<-hN]at hd;have skip:∀{env'},Good P gt O S G w env a->env'=putV o.dst .undef env->Good P gt O S G w env' (a.put o.dst undef):=λhg e=>by
  rw[e];exact hg.putV hd (by simp only[Rv])
 cases hg:o.guard with
 | none =>
  rw[hg]at h3;simp only at h3;have hw:Region.wanted o (yielded ops a.tmps)=true:=by simp[Region.wanted,hg]
  rw[if_pos hw];unfold stepI at ha;rw[h3,h1]at ha;exact afterS_ok h hd (stepO_sound h hd h2) ha hn
 | some jw =>
  obtain⟨j,want⟩:=jw;rw[hg]at h3;simp only at h3;obtain⟨d,hj,hgd⟩:=h3;obtain⟨fb,hf⟩:=h.fr;unfold stepI at ha;rw[hgd,h1]at ha;simp only at ha;split at ha
  ·rename_i b hb;obtain⟨v,ht,hv⟩:=hf.ent d _ hb;simp only[Rv]at hv;subst hv;have hy:yielded ops a.tmps j=some b:=by simp[yielded,hj,ht]
   cases hbw:(b == want) with
   | true =>
    have hw:Region.wanted o (yielded ops a.tmps)=true:=by
     have:b=want:=by simpa using hbw
     simp[Region.wanted,hg,hy,this]
    rw[if_pos hw];rw[hbw]at ha;exact afterS_ok h hd (stepO_sound h hd h2) ha hn
   | false =>
    have hw:¬Region.wanted o (yielded ops a.tmps)=true:=by
     have:¬b=want:=by simpa using hbw
     simp[Region.wanted,hg,hy,this]
    rw[if_neg hw];rw[hbw]at ha;exact hn _ _ _ _ _ (skip h rfl) ha
  ·rename_i hb;obtain⟨v,ht,hv⟩:=hf.ent d _ hb;simp only[Rv]at hv;subst hv;have hy:yielded ops a.tmps j=none:=by simp[yielded,hj,ht,undef]
   have hw:¬Region.wanted o (yielded ops a.tmps)=true:=by simp[Region.wanted,hg,hy]
   rw[if_neg hw];exact hn _ _ _ _ _ (skip h rfl) ha
  ·exact ha.elim
theorem ops_sound {ops:Array Oper}{N:Lim}(hN:O.N=N){locs:List Nat}{tk:Bool}{QD:Ex->Env->St->Prop}:∀(rest:List Oper) (is:List DI) (k:Nat) (env:Env) (S:St) (G:Gh) (w:World) (a:Act),
  prepIs P N locs tk ops rest=some is->rest=ops.toList.drop k->Good P gt O S G w env a->wpIs gt (AC P gt) is env S QD->wpOps P ops (Qc P gt O QD) (List.range' k rest.length) a w
 | [],is,k,env,S,G,w,a,hp,hk,hg,hw=>by
  simp only[prepIs,oI]at hp;subst hp;exact⟨env,S,G,hg,hw⟩
 | o::rest,is,k,env,S,G,w,a,hp,hk,hg,hw=>by
  simp only[prepIs]at hp;split at hp
  ·rename_i i is' h1 h2;simp only[oI]at hp;subst hp;have ho:ops[k]? = some o:=by
    have:(ops.toList.drop k)[0]? = some o:=by rw[<-hk];rfl
    rw[List.getElem?_drop]at this;simpa using this
   have hrest:rest=ops.toList.drop (k+1):=by
    have:=congrArg List.tail hk;simpa using this
   simp only[lC,List.range'_succ,wpOps,ho];exact stepI_ok (o:=o) hg hN h1 hw (λenv' S' G' w' a' g kk=>ops_sound hN rest is' (k+1) env' S' G' w' a' h2 hrest g kk) |> λhh=>by
    split at hh
    ·rename_i hwt;rw[if_pos hwt];exact .inl hh
    ·rename_i hwt;rw[if_neg hwt];exact hh
  ·cases hp
def PI (QD:Ex->Env->St->Prop):Prop:=∀v S env env',QD (.pan v) env S->QD (.pan v) env' S
def Sd (P:Program)(gt:GT)(N:Lim)(c:Code)(D:DC):Prop :=
 ∀O S G w env a QD,PI QD->O.N=N->Good P gt O S G w env a->wpD gt (AC P gt) D env S QD->c.wp P (Qc P gt O QD) a w
theorem Sd.loop {N:Lim}{c:Code}{D:DC}(h:Sd P gt N c D):Sd P gt N (.loop c) (.lop D):=by
 intro O S G w env a QD hpi hN hg hw;obtain⟨n,hn⟩:=hw;refine wp_loop_rounds n ?_
 induction n generalizing S G w env a with
 | zero=>exact hn.elim
 | succ n ih =>
  rw[rounds_succ];refine wp_mono (h O S G w env a _ (by intro v S env env' h;exact hpi v S env env' h) hN hg hn) λe a' w' q=>?_;cases e with
  | normal=>obtain⟨env',S',G',g,q⟩:=q;exact ih _ _ _ _ _ g q
  | exit id=>exact q
  | ret=>exact q
  | panic chain=>exact q
  | goto l=>exact q.elim
  | outgrown=>exact q.elim
theorem Sd.trim {N:Lim}{c:Code}{D:DC}(h:Sd P gt N c D)(ks:List Nat):Sd P gt N c (.seq D (.trim ks)):=by
 intro O S G w env a QD hpi hN hg hw;refine wp_mono (h O S G w env a _ (by intro v S env env' h;exact hpi v S env env' h) hN hg hw) (Qc.mono λS G w env a e g q=>?_);cases e with
 | normal=>exact⟨_,g.keepE ks,q⟩
 | _=>exact⟨env,g,q⟩
theorem Sd.trim0 {N:Lim}{c:Code}{D:DC}(h:Sd P gt N c D)(ks:List Nat):Sd P gt N c (.seq (.trim ks) D):=by
 intro O S G w env a QD hpi hN hg hw;exact h O S G w _ a _ hpi hN (hg.keepE ks) hw
theorem Sd.block {N:Lim}{c:Code}{D:DC}(h:Sd P gt N c D)(id:Nat):Sd P gt N (.block id c) (.blk id D):=by
 intro O S G w env a QD hpi hN hg hw;refine wp_block (wp_mono (h O S G w env a _ (by intro v S env env' h;exact hpi v S env env' h) hN hg hw) λe a' w' q=>?_);cases e with
 | normal=>exact q
 | exit id' =>
  obtain⟨env',S',G',g,q⟩:=q;simp only[Exit.inBlock];simp only at q;by_cases hid:id'=id
  ·rw[if_pos hid]at q ⊢;exact⟨env',S',G',g,q⟩
  ·rw[if_neg hid]at q ⊢;exact⟨env',S',G',g,q⟩
 | ret=>exact q
 | panic chain=>exact q
 | goto l=>exact q.elim
 | outgrown=>exact q.elim
theorem Sd.seq {N:Lim}{c1 c2:Code}{D1 D2:DC}(h1:Sd P gt N c1 D1)(h2:Sd P gt N c2 D2):Sd P gt N (.seq c1 c2) (.seq D1 D2):=by
 intro O S G w env a QD hpi hN hg hw;refine wp_seq (wp_mono (h1 O S G w env a _ (by intro v S env env' h;exact hpi v S env env' h) hN hg hw) λe a' w' q=>?_);cases e with
 | normal=>obtain⟨env',S',G',g,q⟩:=q;exact h2 O _ _ _ _ _ _ hpi hN g q
 | exit id=>exact q
 | ret=>exact q
 | panic chain=>exact q
 | goto l=>exact q.elim
 | outgrown=>exact q.elim
theorem Sd.cond {N:Lim}{x:Operand}{dx:DOpd}{c1 c2:Code}{D1 D2:DC}(hx:opdP P 0 x=some dx)(h1:Sd P gt N c1 D1)(h2:Sd P gt N c2 D2):Sd P gt N (.cond x c1 c2) (.cnd dx D1 D2):=by
 intro O S G w env a QD hpi hN hg hw;simp only[wpD]at hw;split at hw
 ·rename_i t ht;obtain⟨fb,hf⟩:=hg.fr;have:=opd_sound hx ht hf;simp only[Rv]at this;refine wp_cond_split this (λe=>?_) (λe=>?_)
  ·rw[if_pos e]at hw;exact h1 O S G w env a QD hpi hN hg hw
  ·rw[if_neg (by rw[e];decide)]at hw;exact h2 O S G w env a QD hpi hN hg hw
 ·exact hw.elim
theorem wpOps_mono {ops:Array Oper}:∀(l:List Nat) (a:Act) (w:World) (Q1 Q2:Exit->Act->World->Prop),(∀e a w,Q1 e a w->Q2 e a w)->wpOps P ops Q1 l a w->wpOps P ops Q2 l a w:=by
  intro l
  induction l with
  | nil=>intro a w Q1 Q2 hq hh;exact hq _ _ _ hh
  | cons i l ih =>
   intro a w Q1 Q2 hq hh;simp only[wpOps]at hh ⊢;split
   ·rename_i ho;rw[ho]at hh;exact ih _ _ _ _ hq hh
   ·rename_i o ho;rw[ho]at hh;simp only at hh;split
    ·rename_i hwt;rw[if_pos hwt]at hh;rcases hh with hh | ⟨hh,a',w',hl⟩
     ·refine .inl ?_;simp only[Oper.wp,Oper.upon]at hh ⊢;split at hh
      ·exact ih _ _ _ _ hq hh
      ·exact ih _ _ _ _ hq hh
      ·exact ih _ _ _ _ hq hh
      ·refine Calls.mono hh λe w'' hp=>?_;cases e with
       | returned v=>exact ih _ _ _ _ hq hp
       | panicked chain=>exact hq _ _ _ hp
       | outgrown=>obtain⟨a',w',hl⟩:=hp;exact⟨a',w',hq _ _ _ hl⟩
      ·exact Rows.mono hh λv w'' hp=>ih _ _ _ _ hq hp
      ·exact hq _ _ _ hh
      ·exact hh.elim
     ·exact .inr ⟨hh,a',w',hq _ _ _ hl⟩
    ·rename_i hwt;rw[if_neg hwt]at hh;exact ih _ _ _ _ hq hh
theorem Sd.reg {N:Lim}{id:Nat}{ops:Array Oper}{locs:List Nat}{is:List DI}(h:prepIs P N locs true ops ops.toList=some is)(ks:List Nat):Sd P gt N (.region id ops false) (.reg is ks):=by
 intro O S G w env a QD hpi hN hg hw;refine wp_region ?_;have:=ops_sound hN ops.toList is 0 env S G w a h (by simp) hg hw;simp only[Array.length_toList,<-List.range_eq_range']at this;exact wpOps_mono _ _ _ _ _ (Qc.mono λS G w env a e g q=>⟨_,g.keepE ks,q⟩) this
end
end Go.Dn

namespace Go.Dn
open Go
def Agr (R:List Nat)(e1 e2:Env):Prop:=∀n∈R,lk e1 n=lk e2 n
theorem Agr.sub {R R':List Nat}{e1 e2:Env}(h:Agr R e1 e2)(hs:∀n∈R',n∈R):Agr R' e1 e2:=λn hn=>h n (hs n hn)
def Par (W L:List Nat)(e1 e2:Env):SR->SR->Prop
 |.fail,.fail=>True
 |.done a s,.done b t=>s=t/\∃ws:List (Nat×Ent),a=ws++e1/\b=ws++e2/\∀p∈ws,p.1∈W/\∀t o,p.2=.adr t o->t∈L
 |.call f xs,.call g ys=>f=g/\xs=ys
 |.pan v,.pan u=>v=u
 | _,_=>False
section
variable {W L:List Nat}{e1 e2:Env}{dst:Option Nat}{gt:GT}{S:St}
theorem par_putE (hd:∀d,dst=some d->d∈W)(v:Ent)(hv:∀t o,v=.adr t o->t∈L)(S:St):Par W L e1 e2 (.done (putE dst v e1) S) (.done (putE dst v e2) S):=by
 refine⟨rfl,?_⟩;cases dst with
 | none=>exact⟨[],rfl,rfl,λp hp=>by cases hp⟩
 | some d=>exact⟨[(d,v)],rfl,rfl,λp hp=>by simp only[List.mem_singleton]at hp;subst hp;exact⟨hd d rfl,hv⟩⟩
theorem par_putV (hd:∀d,dst=some d->d∈W)(v:AV)(S:St):Par W L e1 e2 (.done (putV dst v e1) S) (.done (putV dst v e2) S):=par_putE hd _ (λt o h=>by cases h) S
theorem par_val (hd:∀d,dst=some d->d∈W)(x:Option AV):Par W L e1 e2 (SR.val dst e1 S x) (SR.val dst e2 S x):=by
 cases x with
 | none=>trivial
 | some v=>exact par_putV hd v S
theorem par_fail:Par W L e1 e2 .fail .fail:=trivial
theorem par_call (f:FuncId)(xs:List AV):Par W L e1 e2 (.call f xs) (.call f xs):=⟨rfl,rfl⟩
theorem par_pan (v:AV):Par W L e1 e2 (.pan v) (.pan v):=rfl
theorem par_bif (b:Bool){x y x' y':SR}(h:Par W L e1 e2 x x')(k:Par W L e1 e2 y y'):Par W L e1 e2 (bif b then x else y) (bif b then x' else y'):=by
 cases b<;>assumption
theorem opd_agr {x:DOpd}(h:Agr (slotO x) e1 e2):opd e1 x=opd e2 x:=by
 cases x with
 | t n=>simp only[opd,h n (by simp[slotO])]
 | _=>rfl
theorem opds_agr:∀{xs:List DOpd},Agr (xs.flatMap slotO) e1 e2->opds e1 xs=opds e2 xs
 | [],_=>rfl
 | x::xs,h=>by
  have h1:opd e1 x=opd e2 x:=opd_agr (h.sub λn hn=>by simp[hn]);have h2:=opds_agr (xs:=xs) (h.sub λn hn=>by simp only[List.flatMap_cons,List.mem_append];exact .inr hn);simp only[opds,h1,h2]
theorem loc_agr {x:DOpd}(h:Agr (slotO x) e1 e2):loc e1 x=loc e2 x:=by
 cases x with
 | t n=>simp only[loc,h n (by simp[slotO])]
 | _=>rfl
theorem bnds_agr {n:Nat}{lo hi:Option DOpd}(h:Agr (slotOO lo) e1 e2)(k:Agr (slotOO hi) e1 e2):bnds e1 n lo hi=bnds e2 n lo hi:=by
 have h1:∀{x:Option DOpd},Agr (slotOO x) e1 e2->∀y,x=some y->opd e1 y=opd e2 y:=λ{x} hx y e=>by subst e;exact opd_agr hx
 unfold bnds;cases lo with
 | none =>
  cases hi with
  | none=>rfl
  | some y=>simp only[h1 k y rfl]
 | some x =>
  cases hi with
  | none=>simp only[h1 h x rfl]
  | some y=>simp only[h1 h x rfl,h1 k y rfl]
theorem fillC_agr:∀{ps:List (Nat×Nat×DOpd)} {cs:List AV},Agr (ps.flatMap λp=>slotO p.2.2) e1 e2->fillC cs e1 ps=fillC cs e2 ps
 | [],_,_=>rfl
 | (off,sz,x)::ps,cs,h=>by
  have h1:opd e1 x=opd e2 x:=opd_agr (h.sub λn hn=>by simp[hn]);have h2:=λcs'=>fillC_agr (ps:=ps) (cs:=cs') (h.sub λn hn=>by simp only[List.flatMap_cons,List.mem_append];exact .inr hn);simp only[fillC,h1,h2]
theorem fillE_agr {es:Nat}:∀{ps:List (Nat×DOpd)} {xs:List AV},Agr (ps.flatMap λp=>slotO p.2) e1 e2->fillE es xs e1 ps=fillE es xs e2 ps
 | [],_,_=>rfl
 | (i,x)::ps,xs,h=>by
  have h1:opd e1 x=opd e2 x:=opd_agr (h.sub λn hn=>by simp[hn]);have h2:=λxs'=>fillE_agr (es:=es) (ps:=ps) (xs:=xs') (h.sub λn hn=>by simp only[List.flatMap_cons,List.mem_append];exact .inr hn);simp only[fillE,h1,h2]
theorem conform_lc {l:Option Nat}{x:DOpd}{t off:Nat}{e:Env}(h:(match l,x with
  | l,.t n=>(match l,lk e n with
   | some t,some (.box _)=>Nat.beq t n
   | some t,some (.adr t' _)=>Nat.beq t t'
   | none,some (.val _)=>true
   | _,_=>false)
  | _,_=>true)=true) (hl:loc e x=some (.lc t off)):l=some t:=by
 cases x with
 | t n =>
  simp only[loc]at hl;simp only at h;split at hl
  ·rename_i cs hk;cases hl;rw[hk]at h;cases l with
   | none=>simp at h
   | some t'=>simp only at h;rw[bE h]
  ·rename_i t' off' hk;cases hl;rw[hk]at h;cases l with
   | none=>simp at h
   | some t'=>simp only at h;rw[bE h]
  ·rename_i v hk;cases v<;>simp[locV]at hl
  ·cases hl
 | g n=>simp[loc]at hl
 | _=>simp[loc]at hl
theorem ldC_agr {l:Option Nat}{sz:Nat}{p:Loc}(hl:∀t off,p=.lc t off->l=some t)(h:Agr l.toList e1 e2):ldC gt e1 S sz p=ldC gt e2 S sz p:=by
 cases p with
 | lc t off =>
  have:=hl t off rfl;subst this;simp only[ldC,h t (by simp)]
 | _=>rfl
theorem stL_par {l:Option Nat}{new:List AV}{p:Loc}(hl:∀t off,p=.lc t off->l=some t)(h:Agr l.toList e1 e2) :
  match stL e1 S new p,stL e2 S new p with
  | some (a,s),some (b,t)=>s=t/\∃ws:List (Nat×Ent),a=ws++e1/\b=ws++e2/\∀q∈ws,q.1∈l.toList/\∀t o,q.2≠.adr t o
  | none,none=>True
  | _,_=>False:=by
 have same:∀(o:Option St),match o.map λs=>(e1,s),o.map λs=>(e2,s) with
  | some (a,s),some (b,t)=>s=t/\∃ws:List (Nat×Ent),a=ws++e1/\b=ws++e2/\∀q∈ws,q.1∈l.toList/\∀t o,q.2≠.adr t o
  | none,none=>True
  | _,_=>False:=λo=>by
  cases o with
  | none=>trivial
  | some s=>exact⟨rfl,[],rfl,rfl,λq hq=>by cases hq⟩
 cases p with
 | lc t off =>
  have:=hl t off rfl;subst this;simp only[stL,h t (by simp)];cases lk e2 t with
  | none=>trivial
  | some en =>
   cases en with
   | box cs =>
    simp only;cases Nat.ble (off+new.length) cs.length with
    | false=>trivial
    | true=>exact⟨rfl,[(t,_)],rfl,rfl,λq hq=>by simp only[List.mem_singleton]at hq;subst hq;exact⟨by simp,λt o h=>by cases h⟩⟩
   | _=>trivial
 | gl g off=>trivial
 | hp id off =>
  simp only[stL];cases lk S.boxes id with
  | none=>trivial
  | some b =>
   cases b with
   | none=>trivial
   | some q =>
    obtain⟨ty,cs⟩:=q;simp only;cases Nat.ble (off+new.length) cs.length with
    | false=>trivial
    | true=>exact⟨rfl,[],rfl,rfl,λq hq=>by cases hq⟩
 | el es o xs i off =>
  simp only[stL];cases rd S o with
  | no=>trivial
  | box b boff =>
   simp only;cases lk S.boxes b with
   | none=>trivial
   | some q =>
    cases q with
    | none=>trivial
    | some q =>
     obtain⟨ty,cs⟩:=q;simp only;cases (Nat.ble (off+new.length) es && (Nat.blt i xs.length && Nat.ble (boff+(o.off+i)*es+off+new.length) cs.length)) with
     | false=>trivial
     | true=>exact⟨rfl,[],rfl,rfl,λq hq=>by cases hq⟩
  | here =>
   simp only;cases o.tok with
   | none=>trivial
   | some tl =>
    obtain⟨t,ln⟩:=tl;simp only;cases lk S.tip t with
    | none=>trivial
    | some q =>
     cases q with
     | none=>trivial
     | some q =>
      obtain⟨n,ty,sf⟩:=q;simp only;cases (Nat.beq o.off 0 && (Nat.beq xs.length n && (Nat.blt i n && Nat.ble (off+new.length) es))) with
      | false=>trivial
      | true=>exact⟨rfl,[],rfl,rfl,λq hq=>by cases hq⟩
theorem addL_adr {l:Option Nat}{p:Loc}{n:Nat}(hl:∀t off,p=.lc t off->l=some t)(hLl:∀t,l=some t->t∈L):∀t o,addL n p=.adr t o->t∈L:=λt o h=>by
 cases p<;>simp only[addL]at h<;>cases h
 exact hLl _ (hl _ _ rfl)
theorem appE {a b:List Nat}{e1 e2:Env}(h:Agr (a++b) e1 e2):Agr a e1 e2/\Agr b e1 e2:=⟨h.sub λn hn=>by simp[hn],h.sub λn hn=>by simp[hn]⟩
def stW (l:Option Nat):DOp->List Nat
 |.st ..=>l.toList
 | _=>[]
theorem stepO_par {l:Option Nat}{op:DOp}(hL:isLoc op=false)(hd:∀d,dst=some d->d∈W)(hw:∀n∈stW l op,n∈W)(hr:Agr (readsO op) e1 e2)(hl:Agr l.toList e1 e2)(hc:conform l e1 op=true)(hLl:∀t,l=some t->t∈L) :
  Par W L e1 e2 (stepO gt dst e1 S op) (stepO gt dst e2 S op):=by
 cases op with
 | alL z=>cases hL
 | bxL x=>cases hL
 | mv x=>simp only[readsO]at hr;simp only[stepO,opd_agr hr];exact par_val hd _
 | pick c a b =>
  simp only[readsO]at hr;obtain⟨h12,h3⟩:=appE hr;obtain⟨h1,h2⟩:=appE h12;simp only[stepO,opd_agr h1,opd_agr h2,opd_agr h3];split
  ·exact par_val hd _
  ·exact par_fail
 | alH ty z=>exact par_putV hd _ _
 | bxH ty x =>
  simp only[readsO]at hr;simp only[stepO,opd_agr hr];split
  ·exact par_putV hd _ _
  ·exact par_fail
 | bld z ps=>simp only[readsO]at hr;simp only[stepO,fillC_agr hr];exact par_val hd _
 | bldS es n z ps=>simp only[readsO]at hr;simp only[stepO,fillE_agr hr];exact par_val hd _
 | bldT ty es n z ps =>
  simp only[readsO]at hr;simp only[stepO,fillE_agr hr];split
  ·exact par_putV hd _ _
  ·exact par_fail
 | ld g sz x =>
  simp only[readsO]at hr;have hloc:=loc_agr hr;have hlc:∀p,loc e1 x=some p->∀t off,p=.lc t off->l=some t:=λp hp t off e=>by
   subst e;refine conform_lc ?_ hp;cases x<;>exact hc
  simp only[stepO,hloc];split
  ·rename_i p hp;simp only[ldL,ldC_agr (gt:=gt) (S:=S) (hlc p (by rw[hloc];exact hp)) hl];exact par_val hd _
  ·exact par_fail
 | st sz x y =>
  simp only[readsO]at hr;obtain⟨h1,h2⟩:=appE hr;have hloc:=loc_agr h1;have hlc:∀p,loc e1 x=some p->∀t off,p=.lc t off->l=some t:=λp hp t off e=>by
   subst e;refine conform_lc ?_ hp;cases x<;>exact hc
  simp only[stepO,hloc,opd_agr h2];split
  ·rename_i p v hp hv;refine par_bif _ ?_ par_fail;have:=stL_par (S:=S) (new:=v.cells) (hlc p (by rw[hloc];exact hp)) hl
   revert this
   cases stL e1 S v.cells p with
   | none =>
    cases stL e2 S v.cells p with
    | none=>intro _;exact par_fail
    | some q=>intro h;exact h.elim
   | some q1 =>
    cases stL e2 S v.cells p with
    | none=>intro h;exact h.elim
    | some q2 =>
     obtain⟨a,s⟩:=q1;obtain⟨b,t⟩:=q2;rintro⟨hs,ws,ha,hb,hws⟩;subst hs;subst ha;subst hb;refine⟨rfl,?_⟩;cases dst with
     | none=>exact⟨ws,rfl,rfl,λq hq=>⟨hw _ (hws q hq).1,λt o h=>absurd h ((hws q hq).2 t o)⟩⟩
     | some d =>
      refine⟨(d,.val .undef)::ws,rfl,rfl,λq hq=>?_⟩;rcases List.mem_cons.1 hq with rfl | hq
      ·exact⟨hd d rfl,λt o h=>by cases h⟩
      ·exact⟨hw _ (hws q hq).1,λt o h=>absurd h ((hws q hq).2 t o)⟩
  ·exact par_fail
 | nilc x =>
  simp only[readsO]at hr;have hloc:=loc_agr hr;have hlc:∀p,loc e1 x=some p->∀t off,p=.lc t off->l=some t:=λp hp t off e=>by
   subst e;refine conform_lc ?_ hp;cases x<;>exact hc
  simp only[stepO,hloc,opd_agr hr];split
  ·rename_i p hp;exact par_putE hd _ (addL_adr (hlc p (by rw[hloc];exact hp)) hLl) _
  ·split
   ·exact par_putV hd _ _
   ·exact par_putV hd _ _
   ·exact par_fail
 | bin bop ek x y =>
  simp only[readsO]at hr;obtain⟨h1,h2⟩:=appE hr;simp only[stepO,opd_agr h1,opd_agr h2];split
  ·exact par_val hd _
  ·exact par_fail
 | un uop x=>simp only[readsO]at hr;simp only[stepO,opd_agr hr];exact par_val hd _
 | cvI k x =>
  simp only[readsO]at hr;simp only[stepO,opd_agr hr];split
  ·exact par_putV hd _ _
  ·exact par_fail
 | cvId x =>
  simp only[readsO]at hr;simp only[stepO,opd_agr hr];split
  ·exact par_putV hd _ _
  ·exact par_fail
 | cvBS x =>
  simp only[readsO]at hr;simp only[stepO,opd_agr hr];split
  ·exact par_val hd _
  ·exact par_fail
 | cvSB ty x =>
  simp only[readsO]at hr;simp only[stepO,opd_agr hr];split
  ·exact par_bif _ (par_putV hd _ _) par_fail
  ·exact par_fail
 | cvU x =>
  simp only[readsO]at hr;simp only[stepO,opd_agr hr];split
  ·exact par_putV hd _ _
  ·split
   ·exact par_bif _ (par_putV hd _ _) par_fail
   ·exact par_fail
  ·exact par_fail
 | cvP ok x =>
  simp only[readsO]at hr;simp only[stepO,opd_agr hr];split
  ·exact par_putV hd _ _
  ·split
   ·exact par_bif _ (par_putV hd _ _) par_fail
   ·exact par_fail
  ·exact par_fail
 | mki t x=>simp only[readsO]at hr;simp only[stepO,opd_agr hr];exact par_val hd _
 | mkf f fs cs =>
  simp only[readsO]at hr;obtain⟨h1,h2⟩:=appE hr;simp only[stepO,opds_agr h1,opds_agr h2];split
  ·exact par_putV hd _ _
  ·exact par_fail
 | mkm=>exact par_putV hd _ _
 | mks ty es bytes z x y =>
  simp only[readsO]at hr;obtain⟨h1,h2⟩:=appE hr;simp only[stepO,opd_agr h1,opd_agr h2];split
  ·exact par_bif _ (par_bif _ (par_putV hd _ _) (par_putV hd _ _)) par_fail
  ·exact par_fail
 | slS x lo hi =>
  simp only[readsO]at hr;obtain⟨h12,h3⟩:=appE hr;obtain⟨h1,h2⟩:=appE h12;simp only[stepO,opd_agr h1,bnds_agr h2 h3];split
  ·split
   ·exact par_putV hd _ _
   ·exact par_fail
  ·exact par_fail
 | slA es x lo hi mx =>
  simp only[readsO]at hr;obtain⟨h123,h4⟩:=appE hr;obtain⟨h12,h3⟩:=appE h123;obtain⟨h1,h2⟩:=appE h12;simp only[stepO,opd_agr h1,bnds_agr h2 h3];split
  ·refine par_bif _ ?_ par_fail;split
   ·cases mx with
    | none=>exact par_putV hd _ _
    | some m =>
     have h5:opd e1 m=opd e2 m:=opd_agr h4;simp only[h5];split
     ·exact par_bif _ (par_putV hd _ _) par_fail
     ·exact par_fail
   ·exact par_fail
  ·exact par_fail
 | slP es n x lo hi =>
  simp only[readsO]at hr;obtain⟨h12,h3⟩:=appE hr;obtain⟨h1,h2⟩:=appE h12;simp only[stepO,loc_agr h1,bnds_agr h2 h3];split
  ·split
   ·exact par_bif _ (par_putV hd _ _) par_fail
   ·exact par_fail
  ·exact par_fail
 | fa off x =>
  simp only[readsO]at hr;have hloc:=loc_agr hr;have hlc:∀p,loc e1 x=some p->∀t off,p=.lc t off->l=some t:=λp hp t off e=>by
   subst e;refine conform_lc ?_ hp;cases x<;>exact hc
  simp only[stepO,hloc];split
  ·rename_i p hp;exact par_putE hd _ (addL_adr (hlc p (by rw[hloc];exact hp)) hLl) _
  ·exact par_fail
 | fd g off sz x =>
  simp only[readsO]at hr;simp only[stepO,opd_agr hr];split
  ·exact par_val hd _
  ·exact par_fail
 | ia es x i =>
  simp only[readsO]at hr;obtain⟨h1,h2⟩:=appE hr;simp only[stepO,opd_agr h1,opd_agr h2];split
  ·exact par_bif _ (par_putV hd _ _) par_fail
  ·exact par_fail
 | iaA es n x i =>
  simp only[readsO]at hr;obtain⟨h1,h2⟩:=appE hr;have hloc:=loc_agr h1;have hlc:∀p,loc e1 x=some p->∀t off,p=.lc t off->l=some t:=λp hp t off e=>by
   subst e;refine conform_lc ?_ hp;cases x<;>exact hc
  simp only[stepO,hloc,opd_agr h2];split
  ·rename_i p i' hp hi;exact par_bif _ (par_putE hd _ (addL_adr (hlc p (by rw[hloc];exact hp)) hLl) _) par_fail
  ·exact par_fail
 | ixS x i =>
  simp only[readsO]at hr;obtain⟨h1,h2⟩:=appE hr;simp only[stepO,opd_agr h1,opd_agr h2];split
  ·split
   ·exact par_putV hd _ _
   ·exact par_fail
  ·exact par_fail
 | ixA g es n x i =>
  simp only[readsO]at hr;obtain⟨h1,h2⟩:=appE hr;simp only[stepO,opd_agr h1,opd_agr h2];split
  ·exact par_bif _ (par_val hd _) par_fail
  ·exact par_fail
 | lkp ek z m k ok =>
  simp only[readsO]at hr;obtain⟨h1,h2⟩:=appE hr;simp only[stepO,opd_agr h1,opd_agr h2];split
  ·refine par_bif _ ?_ par_fail;split
   ·split
    ·exact par_putV hd _ _
    ·exact par_putV hd _ _
    ·exact par_fail
   ·exact par_fail
  ·exact par_fail
 | mup ek m k x =>
  simp only[readsO]at hr;obtain⟨h12,h3⟩:=appE hr;obtain⟨h1,h2⟩:=appE h12;simp only[stepO,opd_agr h1,opd_agr h2,opd_agr h3];split
  ·refine par_bif _ ?_ par_fail;split
   ·split
    ·exact par_bif _ (par_putV hd _ _) par_fail
    ·exact par_putV hd _ _
    ·exact par_fail
   ·exact par_fail
  ·exact par_fail
 | mpe ek z m k =>
  simp only[readsO]at hr;obtain⟨h1,h2⟩:=appE hr;simp only[stepO,opd_agr h1,opd_agr h2];split
  ·refine par_bif _ ?_ par_fail;split
   ·split
    ·exact par_bif _ (par_putV hd _ _) par_fail
    ·exact par_putV hd _ _
    ·exact par_fail
   ·exact par_fail
  ·exact par_fail
 | ens m s x =>
  simp only[readsO]at hr;obtain⟨h12,h3⟩:=appE hr;obtain⟨h1,h2⟩:=appE h12;simp only[stepO,opd_agr h1,opd_agr h2,opd_agr h3];split
  ·split
   ·split
    ·exact par_putV hd _ _
    ·exact par_fail
   ·exact par_fail
  ·exact par_fail
 | mksS es bytes z l' c =>
  simp only[readsO]at hr;obtain⟨h1,h2⟩:=appE hr;simp only[stepO,opd_agr h1,opd_agr h2];split
  ·exact par_bif _ (par_putV hd _ _) par_fail
  ·exact par_fail
 | cvRS x =>
  simp only[readsO]at hr;simp only[stepO,opd_agr hr];split
  ·exact par_putV hd _ _
  ·exact par_fail
 | ext x i =>
  simp only[readsO]at hr;simp only[stepO,opd_agr hr];split
  ·exact par_val hd _
  ·exact par_fail
 | len x =>
  simp only[readsO]at hr;simp only[stepO,opd_agr hr];split
  ·exact par_putV hd _ _
  ·exact par_fail
 | lenS x =>
  simp only[readsO]at hr;simp only[stepO,opd_agr hr];split
  ·exact par_putV hd _ _
  ·exact par_fail
 | lenM x =>
  simp only[readsO]at hr;simp only[stepO,opd_agr hr];split
  ·exact par_putV hd _ _
  ·split
   ·exact par_putV hd _ _
   ·exact par_fail
  ·exact par_fail
 | lenC n=>exact par_putV hd _ _
 | app g ty es bytes x y =>
  simp only[readsO]at hr;obtain⟨h1,h2⟩:=appE hr;simp only[stepO,opd_agr h1,opd_agr h2];split
  ·split
   ·exact par_putV hd _ _
   ·exact par_fail
  ·exact par_fail
 | usd x =>
  simp only[readsO]at hr;simp only[stepO,opd_agr hr];split
  ·exact par_putV hd _ _
  ·refine par_bif _ (par_putV hd _ _) ?_;split
   ·exact par_putV hd _ _
   ·exact par_fail
  ·exact par_fail
 | ustr ty x n =>
  simp only[readsO]at hr;obtain⟨h1,h2⟩:=appE hr;simp only[stepO,opd_agr h1,opd_agr h2];split
  ·exact par_putV hd _ _
  ·split
   ·split
    ·refine par_bif _ ?_ par_fail;split
     ·exact par_putV hd _ _
     ·exact par_fail
    ·exact par_fail
   ·split
    ·refine par_bif _ ?_ par_fail;split
     ·exact par_putV hd _ _
     ·exact par_fail
    ·exact par_fail
   ·exact par_fail
  ·exact par_fail
 | cpy es x y =>
  simp only[readsO]at hr;obtain⟨h1,h2⟩:=appE hr;simp only[stepO,opd_agr h1,opd_agr h2];split
  ·split
   ·refine par_bif _ (par_bif _ (par_putV hd _ _) ?_) par_fail;split
    ·split
     ·exact par_bif _ (par_putV hd _ _) par_fail
     ·exact par_fail
    ·exact par_fail
   ·exact par_fail
  ·exact par_fail
 | mx xs =>
  simp only[readsO]at hr;simp only[stepO,opds_agr hr];split
  ·exact par_val hd _
  ·exact par_fail
 | mn xs =>
  simp only[readsO]at hr;simp only[stepO,opds_agr hr];split
  ·exact par_val hd _
  ·exact par_fail
 | tas ok t z x =>
  simp only[readsO]at hr;simp only[stepO,opd_agr hr];split
  ·exact par_bif _ (par_putV hd _ _) par_fail
  ·exact par_bif _ (par_putV hd _ _) (par_bif _ (par_putV hd _ _) par_fail)
  ·exact par_fail
 | xtn e xs =>
  simp only[readsO]at hr;simp only[stepO,opds_agr hr];split
  ·exact par_val hd _
  ·exact par_fail
 | call f xs =>
  simp only[readsO]at hr;simp only[stepO,opds_agr hr];split
  ·exact par_call _ _
  ·exact par_fail
 | callv x xs =>
  simp only[readsO]at hr;obtain⟨h1,h2⟩:=appE hr;simp only[stepO,opd_agr h1,opds_agr h2];split
  ·exact par_call _ _
  ·exact par_fail
 | inv x tab xs =>
  simp only[readsO]at hr;obtain⟨h1,h2⟩:=appE hr;simp only[stepO,opd_agr h1,opds_agr h2];split
  ·split
   ·exact par_call _ _
   ·exact par_fail
  ·exact par_fail
 | pnc x =>
  simp only[readsO]at hr;simp only[stepO,opd_agr hr];split
  ·exact par_pan _
  ·exact par_fail
theorem stepL_par {op:DOp}(hd:∀d,dst=some d->d∈W)(hr:Agr (readsO op) e1 e2)(hn:∀d,dst=some d->noAdr d e1=noAdr d e2):Par W L e1 e2 (stepL dst e1 S op) (stepL dst e2 S op):=by
 have done:∀d,dst=some d->∀cs,Par W L e1 e2 (.done ((d,.box cs)::e1) S) (.done ((d,.box cs)::e2) S):=λd e cs =>
  ⟨rfl,[(d,.box cs)],rfl,rfl,λp hp=>by simp only[List.mem_singleton]at hp;subst hp;exact⟨hd d e,λt o h=>by cases h⟩⟩
 cases op<;>try exact par_fail
 case alL z =>
  simp only[stepL];cases dst with
  | none=>exact par_fail
  | some d =>
   simp only[hn d rfl];exact par_bif _ (done d rfl _) par_fail
 case bxL x =>
  simp only[readsO]at hr;simp only[stepL,opd_agr hr];cases dst with
  | none=>exact par_fail
  | some d =>
   cases opd e2 x with
   | none=>exact par_fail
   | some v =>
    simp only[hn d rfl];exact par_bif _ (done d rfl _) par_fail
end

def ParS (S T:St):SR->SR->Prop
 |.fail,.fail=>True
 |.done a s,.done b t=>a=b/\s=S/\t=T
 | _,_=>False
section
variable {env:Env}{dst:Option Nat}{gt:GT}{S T:St}
theorem pS_fail:ParS S T .fail .fail:=trivial
theorem pS_done (e:Env):ParS S T (.done e S) (.done e T):=⟨rfl,rfl,rfl⟩
theorem pS_val (x:Option AV):ParS S T (SR.val dst env S x) (SR.val dst env T x):=by
 cases x with
 | none=>trivial
 | some v=>exact pS_done _
theorem pS_bif (b:Bool){x y x' y':SR}(h:ParS S T x x')(k:ParS S T y y'):ParS S T (bif b then x else y) (bif b then x' else y'):=by
 cases b<;>assumption
theorem conform_some {t:Nat}{x:DOpd}{e:Env}{p:Loc}(h:(match some t,x with
  | l,.t n=>(match l,lk e n with
   | some t,some (.box _)=>Nat.beq t n
   | some t,some (.adr t' _)=>Nat.beq t t'
   | none,some (.val _)=>true
   | _,_=>false)
  | _,_=>true)=true) (hl:loc e x=some p):(∃off,p=.lc t off)\/∃g off,p=.gl g off:=by
 cases x with
 | t n =>
  simp only[loc]at hl;simp only at h;split at hl
  ·rename_i cs hk;cases hl;rw[hk]at h;simp only at h;rw[bE h];exact .inl ⟨_,rfl⟩
  ·rename_i t' off' hk;cases hl;rw[hk]at h;simp only at h;rw[bE h];exact .inl ⟨_,rfl⟩
  ·rename_i v hk;rw[hk]at h;simp at h
  ·cases hl
 | g n=>simp only[loc,oI]at hl;subst hl;exact .inr ⟨_,_,rfl⟩
 | _=>simp[loc]at hl
theorem stepO_pure {l:Option Nat}{op:DOp}(hL:isLoc op=false)(he:effO l op=.pure)(hc:conform l env op=true):ParS S T (stepO gt dst env S op) (stepO gt dst env T op):=by
 cases op<;>first | (cases hL;done) | (cases he;done) | skip
 case ld g sz x =>
  simp only[stepO];cases hx:loc env x with
  | none=>exact pS_fail
  | some p =>
   have key:(∃t off,p=.lc t off)\/∃g off,p=.gl g off:=by
    cases l with
    | some t =>
     rcases conform_some (by cases x<;>exact hc) hx with⟨off,h⟩ | ⟨g,off,h⟩
     ·exact .inl ⟨t,off,h⟩
     ·exact .inr ⟨g,off,h⟩
    | none =>
     cases x with
     | g n=>simp only[loc,oI]at hx;subst hx;exact .inr ⟨_,_,rfl⟩
     | _=>simp[effO]at he
   rcases key with⟨t,off,rfl⟩ | ⟨g',off,rfl⟩
   ·simp only[ldL,ldC];exact pS_val _
   ·simp only[ldL,ldC];exact pS_val _
 case st sz x y =>
  simp only[stepO];cases hx:loc env x with
  | none=>cases opd env y<;>exact pS_fail
  | some p =>
   cases l with
   | none=>simp[effO]at he
   | some t =>
    cases opd env y with
    | none=>exact pS_fail
    | some v =>
     simp only;refine pS_bif _ ?_ pS_fail;rcases conform_some (by cases x<;>exact hc) hx with⟨off,rfl⟩ | ⟨g',off,rfl⟩
     ·simp only[stL];cases lk env t with
      | none=>exact pS_fail
      | some en =>
       cases en with
       | box cs =>
        simp only;cases Nat.ble (off+v.cells.length) cs.length with
        | false=>exact pS_fail
        | true=>exact pS_done _
       | _=>exact pS_fail
     ·exact pS_fail
 all_goals simp only[stepO]
 all_goals repeat' first | exact pS_val _ | exact pS_fail | exact pS_done _ | apply pS_bif | split
theorem stepO_still {l:Option Nat}{op:DOp}(he:effO l op≠.acts)(hL:isLoc op=false)(hc:conform l env op=true):ParS S S (stepO gt dst env S op) (stepO gt dst env S op):=by
 by_cases hp:effO l op=.pure
 ·exact stepO_pure hL hp hc
 ·have hr:effO l op=.reads:=by
   cases h:effO l op with
   | pure=>exact absurd h hp
   | reads=>rfl
   | acts=>exact absurd h he
  cases op<;>first | (cases hL;done) | (cases hr;done) | skip
  case ld g sz x =>
   simp only[stepO];split
   ·exact pS_val _
   ·exact pS_fail
  case st sz x y=>simp only[effO]at hr;split at hr<;>cases hr
  all_goals simp only[stepO]
  all_goals repeat' first | exact pS_val _ | exact pS_fail | exact pS_done _ | apply pS_bif | split
end
end Go.Dn
