/- Functions that defer a call; closures that recover: the code, and what it means. -/
import Derived.Recover
import Derived.Test.YthgidapmofcloaaGreatDoorWg
set_option linter.unusedSimpArgs false
set_option linter.unusedVariables false
namespace Go.Dn
open Go Go.RowKit
inductive UM where
  | ret
  | pan (v:AV)
  | rcv
def UMR (S:St) (G:Gh) (w:World):UM→FrameMode→Prop
  |.ret,m=>m=.returning
  |.pan x,m=>∃u,m=.panicking [{ v:=u,recovered:=false }]∧Rv S G w x u
  |.rcv,m=>∃u,m=.panicking [{ v:=u,recovered:=true }]
structure DD where
  np:Nat
  pre:DC
  is:List DI
  x:Nat
  keep:List Nat
  post:DC
  res:List DR
  pin:List Nat
structure DG where
  np:Nat
  dst:Nat
  is:List DI
  keep:List Nat
  post:DC
inductive DX where
  | pl (F:DF)
  | df (F:DD)
  | rc (F:DG)
def flatC:Code→List Code
  |.seq a b=>flatC a++flatC b
  | c=>[c]
def prepL (P:Program) (N:Lim) (n:Note):List Code→Option DC
  | []=>some .skip
  | c::r=>match prepC P N n c,prepL P N n r with
    | some d,some e=>some (.seq d e)
    | _,_=>none
def cellsR:List ResultVar→List Nat
  | []=>[]
  |.cell t _::r=>t::cellsR r
  |.tmp _::r=>cellsR r
def isDefC:Code→Bool
  |.region _ ops false=>match ops.toList.getLast? with
    | some o=>match o.op with
      |.defer _=>true
      | _=>false
    | none=>false
  | _=>false
def deferO (o:Oper):Option Nat :=
  match o.op,o.guard,o.dst with
  |.defer c,none,none=>match c.callee with
    |.value (.tmp x)=>if c.args.size=0 then some x else none
    | _=>none
  | _,_,_=>none
def prepD (P:Program) (n:Note) (fn:Func):Option DD :=
  match fn.body with
  | some c=>match (flatC c).findIdx? isDefC with
    | some i=>match (flatC c).drop i with
      |.region id ops false::q=>match ops.toList.getLast? with
        | some o=>match deferO o,prepL P ⟨fn.ntmps,[]⟩ n ((flatC c).take i),prepIs P ⟨fn.ntmps,[]⟩ n.locs true ops ops.toList.dropLast,prepL P ⟨fn.ntmps,cellsR fn.results.toList⟩ n q,resP P fn.results.toList with
          | some x,some pre,some is,some post,some r=>if fn.params.size+fn.nfree≤fn.ntmps∧((cellsR fn.results.toList).all fun t=>Nat.blt t fn.ntmps)=true then some ⟨fn.params.size+fn.nfree,pre,is,x,(lk n.keep id).getD [],post,r,cellsR fn.results.toList⟩ else none
          | _,_,_,_,_=>none
        | none=>none
      | _=>none
    | none=>none
  | none=>none
def recO (o:Oper):Option Nat :=
  match o.op,o.guard with
  |.call c,none=>match c.callee with
    |.builtin .recover=>o.dst
    | _=>none
  | _,_=>none
def prepG (P:Program) (n:Note) (fn:Func):Option DG :=
  match fn.body with
  | some c=>match flatC c with
    |.region id ops false::q=>match ops.toList with
      | o::tl=>match recO o,prepIs P ⟨fn.ntmps,[]⟩ n.locs true ops tl,prepL P ⟨fn.ntmps,[]⟩ n q with
        | some t,some is,some post=>if fn.params.size+fn.nfree≤fn.ntmps∧t<fn.ntmps∧fn.results = #[] then some ⟨fn.params.size+fn.nfree,t,is,(lk n.keep id).getD [],post⟩ else none
        | _,_,_=>none
      | []=>none
    | _=>none
  | none=>none
abbrev CallU:=FuncId→List AV→UM→St→(UM→St→Prop)→Prop
def keepV (env:Env):List Nat→Env
  | []=>[]
  | k::r=>match lk env k with
    | some (.val v)=>(k,.val v)::keepV env r
    | _=>keepV env r
def wpDD (gt:GT) (C:CallT) (U:CallU) (F:DD) (xs:List AV) (S:St) (Q:Res→St→Prop):Prop :=
  xs.length=F.np∧wpD gt C F.pre (enterE xs 0) S fun e env S=>match e with
    |.normal=>wpIs gt C F.is env S fun e env S=>match e with
      |.normal=>match opd env (.t F.x) with
        | some (.fn f fs cs)=>wpD gt C F.post (keepV env F.keep) S fun e env' S=>match e with
          |.normal |.ret=>U f (fs++cs) .ret S fun u S=>match u with
            |.ret=>∃v,result gt env' S F.res=some v∧Q (.ret v) S
            | _=>False
          |.pan v=>U f (fs++cs) (.pan v) S fun u S=>match u with
            |.rcv=>∃v,result gt (keepV (keepV env F.keep) F.pin) S F.res=some v∧Q (.ret v) S
            |.pan v=>Q (.pan v) S
            |.ret=>False
          |.exit _=>False
        | _=>False
      |.pan v=>Q (.pan v) S
      | _=>False
    |.ret=>∃v,result gt env S F.res=some v∧Q (.ret v) S
    |.pan v=>Q (.pan v) S
    |.exit _=>False
def wpDG (gt:GT) (C:CallT) (F:DG) (xs:List AV) (u:UM) (S:St) (Q:UM→St→Prop):Prop :=
  xs.length=F.np∧match u with
    |.ret=>go .nilif .ret
    |.pan v=>go v .rcv
    |.rcv=>False
where go (v:AV) (u':UM):Prop :=
  wpIs gt C F.is ((F.dst,.val v)::enterE xs 0) S fun e env S=>match e with
    |.normal=>wpD gt C F.post (keepE env F.keep) S fun e _ S=>match e with
      |.normal |.ret=>Q u' S
      | _=>False
    | _=>False
def ACU (P:Program) (gt:GT) (f:FuncId) (xs:List AV) (u:UM) (S:St) (Q:UM→St→Prop):Prop :=
  HasBody P f∧∀G w args m,Inv P gt S G w→Rl S G w xs args→UMR S G w u m→CallsD P f ⟨args⟩ m w fun e m' w'=>match e with
    |.returned _=>∃u' S' G',Q u' S'∧Tr P gt S G w S' G' w'∧UMR S' G' w' u' m'
    | _=>False
section
variable {P:Program} {gt:GT} {O:Orig}
def wpL (P:Program):List Code→(Exit→Act→World→Prop)→Act→World→Prop
  | [],Q,a,w=>Q .normal a w
  | c::r,Q,a,w=>c.wp P (Exit.then (wpL P r Q) Q) a w
theorem wp_flat:∀(c:Code) (r:List Code) (Q:Exit→Act→World→Prop) (a:Act) (w:World),wpL P (flatC c++r) Q a w→c.wp P (Exit.then (wpL P r Q) Q) a w:=by
  intro c
  induction c with
  | seq x y ihx ihy =>
    intro r Q a w h
    simp only [flatC,aA] at h
    refine wp_seq (wp_mono (ihx _ _ _ _ h) fun e a w q=>?_)
    cases e<;>first | exact ihy _ _ _ _ q | exact q
  | _=>intro r Q a w h;exact h
theorem wp_of_flat {c:Code} {Q:Exit→Act→World→Prop} {a:Act} {w:World} (h:wpL P (flatC c) Q a w):c.wp P Q a w:=by
  refine wp_mono (wp_flat c [] Q a w (by rw [List.append_nil];exact h)) fun e a w q=>?_
  cases e<;>exact q
theorem wpL_mono {Q Q':Exit→Act→World→Prop} (hq:∀e a w,Q e a w→Q' e a w):∀(l:List Code) (a:Act) (w:World),wpL P l Q a w→wpL P l Q' a w
  | [],a,w,h=>hq _ _ _ h
  | c::r,a,w,h=>wp_mono h fun e a w q=>by
    cases e<;>first | exact wpL_mono hq r _ _ q | exact hq _ _ _ q
theorem wpL_append {Q:Exit→Act→World→Prop}:∀(l r:List Code) (a:Act) (w:World),wpL P l (Exit.then (wpL P r Q) Q) a w→wpL P (l++r) Q a w
  | [],r,a,w,h=>h
  | c::l,r,a,w,h=>wp_mono h fun e a w q=>by
    cases e<;>first | exact wpL_append l r _ _ q | exact q
theorem prepL_sound (hm:P.follows .mixedOrders=true) {N:Lim} {n:Note}:∀{L:List Code} {D:DC},prepL P N n L=some D →
    ∀O S G w env a QD,PI QD→O.N=N→Good P gt O S G w env a→wpD gt (AC P gt) D env S QD→wpL P L (Qc P gt O QD) a w
  | [],D,hp,O,S,G,w,env,a,QD,hpi,hN,hg,hw=>by
    simp only [prepL,oI] at hp;subst hp
    exact⟨env,S,G,hg,hw⟩
  | c::r,D,hp,O,S,G,w,env,a,QD,hpi,hN,hg,hw=>by
    simp only [prepL] at hp
    split at hp
    · rename_i d e hd he
      simp only [oI] at hp;subst hp
      refine wp_mono (prepC_sound hm hd O S G w env a _ (by intro v S env env' h;exact hpi v S env env' h) hN hg hw) fun e a w q=>?_
      cases e with
      | normal=>obtain⟨env',S',G',g,q⟩:=q;exact prepL_sound hm he O _ _ _ _ _ _ hpi hN g q
      | exit id=>exact q
      | ret=>exact q
      | panic chain=>exact q
      | goto l=>exact q.elim
      | outgrown=>exact q.elim
    · cases hp
theorem upon_mono {o:Oper} {a:Act} {n1 n2:Act→World→Prop} {Q1 Q2:Exit→Act→World→Prop} {r:Result Next} (hn:∀a w,n1 a w→n2 a w) (hq:∀e a w,Q1 e a w→Q2 e a w) (h:o.upon P a n1 Q1 r):o.upon P a n2 Q2 r:=by
  unfold Oper.upon at h ⊢
  split at h
  · exact hn _ _ h
  · exact hn _ _ h
  · exact hn _ _ h
  · refine Calls.mono h fun e w'' hp=>?_
    cases e with
    | returned v=>exact hn _ _ hp
    | panicked chain=>exact hq _ _ _ hp
    | outgrown=>obtain⟨a',w',hl⟩:=hp;exact⟨a',w',hq _ _ _ hl⟩
  · exact Rows.mono h fun v w'' hp=>hn _ _ hp
  · exact hq _ _ _ h
  · exact h.elim
theorem wpOps_append {ops:Array Oper} {Q:Exit→Act→World→Prop}:∀(l r:List Nat) (a:Act) (w:World),wpOps P ops (Exit.then (wpOps P ops Q r) Q) l a w→wpOps P ops Q (l++r) a w
  | [],r,a,w,h=>h
  | i::l,r,a,w,h=>by
    simp only [List.cons_append,wpOps] at h ⊢
    split
    · rename_i ho;rw [ho] at h;exact wpOps_append l r _ _ h
    · rename_i o ho
      rw [ho] at h
      simp only at h
      split
      · rename_i hw
        rw [if_pos hw] at h
        rcases h with h | ⟨h,a',w',hl⟩
        · refine .inl ?_
          unfold Oper.wp Oper.upon at h ⊢
          split at h
          · exact wpOps_append l r _ _ h
          · exact wpOps_append l r _ _ h
          · exact wpOps_append l r _ _ h
          · refine Calls.mono h fun e w'' hp=>?_
            cases e with
            | returned v=>exact wpOps_append l r _ _ hp
            | panicked chain=>exact hp
            | outgrown=>obtain⟨a',w',hl⟩:=hp;exact⟨a',w',hl⟩
          · exact Rows.mono h fun v w'' hp=>wpOps_append l r _ _ hp
          · exact h
          · exact h.elim
        · exact .inr ⟨h,a',w',hl⟩
      · rename_i hw
        rw [if_neg hw] at h
        exact wpOps_append l r _ _ h
theorem ops_soundP {ops:Array Oper} {N:Lim} (hN:O.N=N) {locs:List Nat} {tk:Bool} {QD:Ex→Env→St→Prop}:∀(rest:List Oper) (is:List DI) (k:Nat) (env:Env) (S:St) (G:Gh) (w:World) (a:Act),
    prepIs P N locs tk ops rest=some is→(∀j o,rest[j]? = some o→ops[k+j]? = some o)→Good P gt O S G w env a→wpIs gt (AC P gt) is env S QD→wpOps P ops (Qc P gt O QD) (List.range' k rest.length) a w
  | [],is,k,env,S,G,w,a,hp,hk,hg,hw=>by
    simp only [prepIs,oI] at hp;subst hp
    exact⟨env,S,G,hg,hw⟩
  | o::rest,is,k,env,S,G,w,a,hp,hk,hg,hw=>by
    simp only [prepIs] at hp
    split at hp
    · rename_i i is' h1 h2
      simp only [oI] at hp;subst hp
      have ho:ops[k]? = some o:=by simpa using hk 0 o rfl
      have hrest:∀j o',rest[j]? = some o'→ops[k+1+j]? = some o':=fun j o' h=>by
        have:=hk (j+1) o' (by simpa using h)
        rw [show k+1+j=k+(j+1) by omega];exact this
      simp only [lC,List.range'_succ,wpOps,ho]
      exact stepI_ok (o:=o) hg hN h1 hw (fun env' S' G' w' a' g kk=>ops_soundP hN rest is' (k+1) env' S' G' w' a' h2 hrest g kk) |> fun hh=>by
        split at hh
        · rename_i hwt;rw [if_pos hwt];exact .inl hh
        · rename_i hwt;rw [if_neg hwt];exact hh
    · cases hp
theorem ops_soundS {ops:Array Oper} {N:Lim} (hN:O.N=N) {locs:List Nat} {tk:Bool} {QD:Ex→Env→St→Prop} (cs0:List Frame):∀(rest:List Oper) (is:List DI) (k:Nat) (env:Env) (S:St) (G:Gh) (w:World) (a:Act),
    prepIs P N locs tk ops rest=some is→(∀j o,rest[j]? = some o→ops[k+j]? = some o)→Good P gt O S G w env a→wpIs gt (AC P gt) is env S QD →
    wpOpsS P ops (fun e a cs w=>cs=cs0∧Qc P gt O QD e a w) (List.range' k rest.length) a cs0 w
  | [],is,k,env,S,G,w,a,hp,hk,hg,hw=>by
    simp only [prepIs,oI] at hp;subst hp
    exact⟨rfl,env,S,G,hg,hw⟩
  | o::rest,is,k,env,S,G,w,a,hp,hk,hg,hw=>by
    simp only [prepIs] at hp
    split at hp
    · rename_i i is' h1 h2
      simp only [oI] at hp;subst hp
      have ho:ops[k]? = some o:=by simpa using hk 0 o rfl
      have hrest:∀j o',rest[j]? = some o'→ops[k+1+j]? = some o':=fun j o' h=>by
        have:=hk (j+1) o' (by simpa using h)
        rw [show k+1+j=k+(j+1) by omega];exact this
      simp only [lC,List.range'_succ,wpOpsS,ho]
      have hh:=stepI_ok (o:=o) hg hN h1 hw (fun env' S' G' w' a' g kk=>ops_soundS hN cs0 rest is' (k+1) env' S' G' w' a' h2 hrest g kk)
      split at hh
      · rename_i hwt
        rw [if_pos hwt]
        unfold Oper.wp at hh
        split
        · rename_i w' hr
          rw [hr] at hh
          exact hh.elim
        · exact upon_mono (fun a w h=>h) (fun e a w h=>⟨trivial,h⟩) hh
      · rename_i hwt;rw [if_neg hwt];exact hh
    · cases hp
def wpLS (P:Program):List Code→(Exit→Act→List Frame→World→Prop)→Act→List Frame→World→Prop
  | [],Q,a,cs,w=>Q .normal a cs w
  | c::r,Q,a,cs,w=>c.wpS P (Exit.thenS (wpLS P r Q) Q) a cs w
theorem wpS_mono {c:Code} {Q Q':Exit→Act→List Frame→World→Prop} {a:Act} {cs:List Frame} {w:World} (h:c.wpS P Q a cs w) (hq:∀e a cs w,Q e a cs w→Q' e a cs w):c.wpS P Q' a cs w :=
  fun b k h1 h2=>let ⟨e,a',cs',w',q,r⟩:=h b k h1 h2;⟨e,a',cs',w',hq _ _ _ _ q,r⟩
theorem wpS_flat:∀(c:Code) (r:List Code) (Q:Exit→Act→List Frame→World→Prop) (a:Act) (cs:List Frame) (w:World),wpLS P (flatC c++r) Q a cs w→c.wpS P (Exit.thenS (wpLS P r Q) Q) a cs w:=by
  intro c
  induction c with
  | seq x y ihx ihy =>
    intro r Q a cs w h
    simp only [flatC,aA] at h
    refine wpS_seq (wpS_mono (ihx _ _ _ _ _ h) fun e a cs w q=>?_)
    cases e<;>first | exact ihy _ _ _ _ _ q | exact q
  | _=>intro r Q a cs w h;exact h
theorem wpS_of_flat {c:Code} {Q:Exit→Act→List Frame→World→Prop} {a:Act} {cs:List Frame} {w:World} (h:wpLS P (flatC c) Q a cs w):c.wpS P Q a cs w:=by
  refine wpS_mono (wpS_flat c [] Q a cs w (by rw [List.append_nil];exact h)) fun e a cs w q=>?_
  cases e<;>exact q
theorem wpLS_of_wpL {Q:Exit→Act→List Frame→World→Prop} {cs:List Frame}:∀(l:List Code) (a:Act) (w:World),wpL P l (fun e a w=>Q e a cs w) a w→wpLS P l Q a cs w
  | [],a,w,h=>h
  | c::r,a,w,h=>wpS_of_wp (wp_mono h fun e a w q=>by
    cases e<;>first | exact wpLS_of_wpL r _ _ q | exact q)
theorem lk_keepV {env:Env}:∀{ks:List Nat} {s:Nat} {e:Ent},lk (keepV env ks) s=some e→s∈ks∧∃v,e=.val v∧lk env s=some (.val v)
  | [],s,e,h=>by simp [keepV,lk] at h
  | k::r,s,e,h=>by
    simp only [keepV] at h
    split at h
    · rename_i v hk
      rw [lk_cons] at h
      by_cases hs:k=s
      · subst hs
        rw [if_pos rfl] at h
        cases h
        exact⟨List.mem_cons_self ..,v,rfl,hk⟩
      · rw [if_neg hs] at h
        obtain⟨h1,h2⟩:=lk_keepV h
        exact⟨List.mem_cons_of_mem _ h1,h2⟩
    · obtain⟨h1,h2⟩:=lk_keepV h
      exact⟨List.mem_cons_of_mem _ h1,h2⟩
theorem run_recover {o:Oper} {a:Act} {t:Nat} {w:World} (h:recO o=some t):o.guard=none∧o.dst=some t∧(execOp a.eval o).run P w=.ok .recover w:=by
  unfold recO at h
  split at h
  · rename_i c hop hg
    split at h
    · rename_i hc
      refine⟨hg,h,?_⟩
      simp only [execOp,hop,resolve,hc]
      rfl
    · cases h
  · cases h
end
end Go.Dn
