/- errors.As and errors.Is as contracts over the abstract store. What the listed variables give: 'errors.errorType' holds the handle of the type 'error'; a world that meets the condition; the law without arguments, run by the kernel. Functions of the library by the contracts of the kit's shelf, as pure functions over the abstract store. The functions that laws about trees reach, as contracts, each by its code. Bytes as lists. Texts of characters: the reference's Runes and Valid. Trees: the reference's Shaped is the program's formed. Trees: the reference's Depth and Right; the law TreeRights, walked. Noughts cut off at both ends, in either order. Numbers: the reference's Digits and Decimal. Numbers: the reference's run; Split, from its end: the digits without noughts, the exponent. Numbers: the reference's Split: the exponent's number. Numbers: the reference's Split: the exponent's digits. Numbers: the reference's Split: its pieces. Numbers: the reference's Split is the program's. Numbers: the reference's Split is the program's: from its beginning. Numbers: the reference's Split, Join and Normal are the program's. Numbers: the reference's Join and Normal are the program's. Times: the reference's digits and dates. Times: the reference's dates are the program's. Times: the reference's times of a day are the program's. Times: the reference's Time, walked. Times: the reference's Time is the program's. The reference's functions that laws about trees reach, as contracts, each by its code. The walk to the next region's end, as a lemma that a tactic of its own serves. Quoted texts, as pure functions: digits of sixteen, escapes, characters' bytes, the text behind a quote; text.value and text.Hex. text.pair, text.Escaped. A row of a drawn region that would read the same again. text.put: a character's bytes. A part of a function's code, by its place: walks in pieces. text.Wrong, text.Quoted: the text in quotes with which a text begins. The reference's escapes: Hex, Number, Simple, Byte. The reference's escape and Within. The reference's Within: the text behind a quote at a place. What a text of a tree says: the reader as a function of places alone. The reader of trees: bytes' kinds, and the place where it stands. The reader of trees: rows of bytes. The reader of trees: blanks, nodes, quoted texts. The reader of trees: quoted texts. The reader of trees: trees with lists of their own. The reader of trees: numbers and words. The reader of trees: what it gives has lists of its own; where it ends. The reader of trees: lists. The reader of trees: records. The reader of trees: a tree. The reader of trees: the closures of Parse and Read. The reader of trees: Read and Parse. The reader of trees: Parse; whether an error is what is refused. Texts of characters: what the reference's Runes tells, whatever the store. The reference's reader: its small functions. The reference's reader: blanks, rows, quoted texts. Printed by mkWU23.py. The reference's reader: rows. Printed by mkWU24.py. The reference's reader: quoted texts, what begins, words and numbers and times. The reference's reader: words and numbers and times. The reference's reader: a value. The reference's reader: a value, walked. The reference's reader: a value, from its first byte on. The reference's reader: lists. Printed by mkWU30.py. The reference's reader: what a record's loop does, from the key on. Printed by mkWU31.py. The reference's reader: records. The reference's reader: Begin and Parse. Numbers handed in a list; emendbook.Within. The law TreeParses, over the functions that it calls. The reader of trees and the reference's, as contracts, each by its code. Sorting: what a stable sort by blocks and merges in place does, as plain lists. An array of numbers that is one's own, read and written in place. -/
import Derived.Lib.IfaceEq
import Derived.Test.YthgidapmofcloaaGreatDoorTie
import Derived.Test.YthgidapmofcloaaGreatDoorCards
import Derived.ProofKit
import Derived.LaidMore
import Derived.LaidHandle
import Derived.Lib.LaidTab
import Derived.Stop.LaidErr
import Derived.OpenShut
import Derived.Stop.Joined
import Derived.Lay
import Derived.SevenTiedAt
import Derived.Lib.SmallJoins
import Derived.Lib.AppendIntMem
import Derived.Test.YthgidapmofcloaaGreatDoorWm
set_option linter.unusedSimpArgs false
set_option linter.unusedVariables false
set_option maxHeartbeats 64000000
namespace Go.Proofs.YthgidapmofcloaaGreatDoor
open Go.RowKit Go.Extern.Stop Go.Stop Go.Extern
theorem Pr.comp26:(Tryz.prog.info? 26).map (·.comparable)=some true:=by kernel_rfl
set_option maxHeartbeats 4000000 in
set_option maxRecDepth 100000 in
theorem is_hit (pb po:Nat)(m:Int)(w:World)(h1:w.cell? ⟨pb,po+1,none⟩=some (.int .i64 m)) :
  Calls Tryz.prog 76 #[.iface 105 (.pointer (some ⟨pb,po,none⟩)),.iface 26 (.int .i64 m)] w λe w'=>e=.returned (.bool true)/\w'=w:=by
 have h8:=@run_callFunc_extern Tryz.prog 126 _ Extern.ReflectliteType.typeOf Tryz.func126 (by kernel_rfl) (by kernel_rfl) (by kernel_rfl) (by kernel_rfl);have h32 := @run_callFunc_extern Tryz.prog 275 _ (Extern.ReflectliteType.method fun t => do Rtype.noPackHeld "Comparable" t; pure (.bool (← typeInfo t).comparable)) Tryz.func275 (by kernel_rfl) (by kernel_rfl) (by kernel_rfl) (by kernel_rfl)
 have tT:=Pr.typeOf26;have cT:=Pr.comparable26;have mR:=Pr.methodComparable;have nE:=Pr.noIs;have uW:=Pr.hasUnwrap;have mU:=Pr.methodUnwrap;have heq:=Go.Lib.run_eql_iface_int (P:=Tryz.prog) w (k:=.i64) m m Tryz.underlying32 Pr.comp26 Tryz.underlying26;have hty:=run_eql_iface_types (P:=Tryz.prog) 105 26 (.pointer (some ⟨pb,po,none⟩)) (.int .i64 m) Tryz.underlying32 (by decide) w;rw[beq_self_eq_true]at heq
 go_enter Tryz.func76,Tryz.ntmps76
 go_wp2
 refine wp_loop_rounds 2 ?_;rw[rounds_succ]
 go_wp2
 rw[rounds_succ]
 go_wp2
 go_ret
 exact⟨rfl,rfl⟩
abbrev pows:List Int:=[1,10,100,1000,10000,100000,1000000,10000000,100000000,1000000000,10000000000,100000000000,1000000000000,10000000000000,100000000000000,1000000000000000,10000000000000000,100000000000000000,1000000000000000000,10000000000000000000]
abbrev powsA:List Dn.AV:=[.int .u64 1,.int .u64 10,.int .u64 100,.int .u64 1000,.int .u64 10000,.int .u64 100000,.int .u64 1000000,.int .u64 10000000,.int .u64 100000000,.int .u64 1000000000,.int .u64 10000000000,.int .u64 100000000000,.int .u64 1000000000000,.int .u64 10000000000000,.int .u64 100000000000000,.int .u64 1000000000000000,.int .u64 10000000000000000,.int .u64 100000000000000000,.int .u64 1000000000000000000,.int .u64 10000000000000000000]
theorem powsA_eq:powsA=pows.map (Dn.AV.int .u64):=rfl
abbrev gtT:Dn.GT:=[(6,powsA),(0,[.raw (.iface 187 (.agg #[.pointer (some ⟨9,32,none⟩)]))])]
theorem gtT_cell {S:Dn.St}{G:Dn.Gh}{w:World}(hI:Dn.Inv Tryz.prog gtT S G w):w.cell? ⟨0,0,none⟩=some (.iface 187 (.agg #[.pointer (some ⟨9,32,none⟩)])):=by
 obtain⟨_,c,ty,fr,h1,h2⟩:=hI.glob 0 _ rfl;simp only[Dn.Rl,Dn.Rv]at h2;obtain⟨v,r,e1,⟨rfl,_⟩,rfl⟩:=h2;obtain⟨c⟩:=c;simp only at e1;subst e1;simp[World.cell?,h1]
theorem setCell_wBlk {w:World}{b off:Nat}{c:Array Value}{ty:TypeId}{fr:Nat×Nat}(v:Value)(h:w.heap[b]? = some (.cells c ty fr)):w.setCell ⟨b,off,none⟩ v=Dn.wBlk w b (.cells (c.setIfInBounds off v) ty fr):=by
 have hlt:=Dn.lt_of_some h;simp only[World.setCell,Dn.wBlk]
 congr 1
 apply Array.ext_getElem?
 intro j;by_cases e:j=b
 ·subst e;rw[Array.getElem?_modify,if_pos rfl,h];simp[hlt]
 ·rw[Array.getElem?_setIfInBounds_ne (Ne.symm e),Array.getElem?_modify,if_neg (Ne.symm e)]
theorem body74:Dn.HasBody Tryz.prog 74:=⟨_,Tryz.func74,by kernel_rfl,by kernel_rfl⟩
theorem body76:Dn.HasBody Tryz.prog 76:=⟨_,Tryz.func76,by kernel_rfl,by kernel_rfl⟩
theorem primAs:Dn.PrimOK Tryz.prog gtT 74 (.errAs 105 107):=by
 intro xs S v S' h;refine⟨body74,λG w args hI hx=>?_⟩;unfold Dn.primV at h;split at h<;>try (rename_i e1;cases e1;done)
 ·rename_i e1;cases e1;simp only[Dn.Rl]at hx;obtain⟨u,r,rfl,hu,t,r,rfl,ht,rfl⟩:=hx;simp only[Dn.Rv]at hu;subst hu;cases h;exact(as_nil t w).mono λe w' ⟨h1,h2⟩=>by
   subst h1;subst h2;exact⟨_,_,_,⟨rfl,rfl⟩,Dn.Tr.refl hI,by simp only[Dn.Rv]⟩
 ·rename_i t tp t' id off tp' tid e1;cases e1;cases hb:(Nat.beq 105 t' && Nat.beq 107 tp') with
  | false=>rw[hb]at h;cases h
  | true =>
   rw[hb]at h;simp only[cond_true]at h;simp only[Bool.and_eq_true]at hb;obtain rfl:=Nat.eq_of_beq_eq_true hb.1;obtain rfl:=Nat.eq_of_beq_eq_true hb.2;split at h
   ·rename_i ty a hbx;cases h;simp only[Dn.Rl,Dn.Rv]at hx;obtain⟨u,r,rfl,hu,t,r,rfl,ht,rfl⟩:=hx;obtain⟨_,rfl,hid,rfl⟩:=hu;obtain⟨_,rfl,htid,rfl⟩:=ht;obtain⟨_,c,fr,sf,pre,rest,hw,hfr,hcl,hpre⟩:=hI.box tid ty _ hbx;simp only[Dn.Rl]at hpre;obtain⟨u0,r,rfl,_,rfl⟩:=hpre;have hsz:0<c.size:=by rw[<-Array.length_toList,hcl];simp
    have hc0:c[0]? = some u0:=by rw[<-Array.getElem?_toList,hcl];rfl
    refine(as_hit ⟨G.β id,off,none⟩ ⟨G.β tid,0,none⟩ u0 w (gtT_cell hI) (by simp[World.cell?,hw,hc0]) (by simp only[World.frozen?,hw];exact hfr.free hsz)).mono λe w' ⟨h1,h2⟩=>?_;subst h1;generalize hW:(((w.alloc (.cells #[.pointer (some ⟨G.β tid,0,none⟩)] 107)).alloc (.cells #[.pointer (some ⟨9,107,none⟩),.pointer (some ⟨w.heap.size,0,none⟩),.int .u64 150] 149)).alloc (.cells #[.pointer (some ⟨9,107,none⟩),.pointer (some ⟨w.heap.size,0,none⟩),.int .u64 150] 149)).alloc (.cells #[.pointer (some ⟨G.β id,off,none⟩)] 105)=W at h2;have hgr:Dn.Gr w W:=by
     subst hW;exact(((Dn.Gr.push _ _).trans (Dn.Gr.push _ _)).trans (Dn.Gr.push _ _)).trans (Dn.Gr.push _ _)
    clear hW
    have t1:=Dn.Tr.gr hI hgr;have hw2:W.heap[G.β tid]? = some (.cells c ty fr):=by rw[hgr.same _ (hI.boxLt tid htid)];exact hw
    rw[setCell_wBlk _ hw2]at h2;have t2:=Dn.Tr.boxSet t1.inv (c':=c.setIfInBounds 0 (.pointer (some ⟨G.β id,off,none⟩))) (cs':=[.ptr id off]) (pre':=[.pointer (some ⟨G.β id,off,none⟩)]) (rest:=rest) hbx hw2 (by simp) (by simp[hcl]) (by
     refine⟨_,_,rfl,?_,rfl⟩;simp only[Dn.Rv];exact⟨hid,trivial⟩)
    subst h2;exact⟨_,_,_,⟨rfl,rfl⟩,t1.trans t2,by simp only[Dn.Rv]⟩
   ·cases h
 ·cases h
theorem primIs:Dn.PrimOK Tryz.prog gtT 76 (.errIs 105 26):=by
 intro xs S v S' h;refine⟨body76,λG w args hI hx=>?_⟩;unfold Dn.primV at h;split at h<;>try (rename_i e1;cases e1;done)
 ·rename_i t ti t' id off ti' n e1;cases e1;cases hb:(Nat.beq 105 t' && Nat.beq 26 ti') with
  | false=>rw[hb]at h;cases h
  | true =>
   rw[hb]at h;simp only[cond_true]at h;simp only[Bool.and_eq_true]at hb;obtain rfl:=Nat.eq_of_beq_eq_true hb.1;obtain rfl:=Nat.eq_of_beq_eq_true hb.2;split at h
   ·rename_i ty cs hbx;split at h
    ·rename_i m hm;cases hmn:m == n with
     | false=>rw[hmn]at h;cases h
     | true =>
      rw[hmn]at h;cases h;obtain rfl:=eq_of_beq hmn;simp only[Dn.Rl,Dn.Rv]at hx;obtain⟨u,r,rfl,hu,t,r,rfl,ht,rfl⟩:=hx;obtain⟨_,rfl,hid,rfl⟩:=hu;obtain⟨_,rfl,rfl⟩:=ht;obtain⟨_,c,fr,sf,pre,rest,hw,hfr,hcl,hpre⟩:=hI.box id ty cs hbx;have hc1:c[off+1]? = some (.int .i64 m):=by
       rw[<-Array.getElem?_toList,hcl];obtain⟨y,hy1,hy2⟩:=Dn.Rl.get hpre hm;simp only[Dn.Rv]at hy2;subst hy2;have q:off+1<pre.length:=by
        rcases Nat.lt_or_ge (off+1) pre.length with q | q
        ·exact q
        ·rw[List.getElem?_eq_none q]at hy1;cases hy1
       rw[List.getElem?_append_left q];exact hy1
      refine(is_hit (G.β id) off m w (by simp[World.cell?,hw,hc1])).mono λe w' ⟨h1,h2⟩=>?_;subst h1;subst h2;exact⟨_,_,_,⟨rfl,rfl⟩,Dn.Tr.refl hI,by simp only[Dn.Rv]⟩
    ·cases h
   ·cases h
 ·cases h
theorem prims:Dn.PrimsOK Tryz.prog gtT [(74,.errAs 105 107),(76,.errIs 105 26)]:=.cons primAs (.cons primIs .nil)
end Go.Proofs.YthgidapmofcloaaGreatDoor

namespace Go.Proofs.YthgidapmofcloaaGreatDoor
open Go.ChangeShapes Go.WideShapes Go.ChangeAt Go.RowKit
abbrev laid:List (String×DataW Unit):=Rows.treeRunsRow.laid
theorem own:ownKnob Tryz.prog.godebug=none:=by kernel_rfl
theorem globET : Tryz.prog.globalNamed "errors.errorType" = some 0 := by kernel_rfl
theorem rtypeIs : (Tryz.prog.cutTypes.find? (·.1 == "internal/reflectlite.rtype")).map (·.2) = some 187 := by kernel_rfl
theorem oneRow:((List.range 291).filter λt=>Tryz.prog.rowNamed t [101,114,114,111,114])=[32]:=by kernel_rfl
theorem typesSize:Tryz.prog.types.size=291:=by kernel_rfl
theorem handle_of_laid {W : World} (h : laidMetH Tryz.prog laid W) : W.var? Tryz.prog "errors.errorType" = some #[.iface 187 (.agg #[.pointer (some ⟨9, 32, none⟩)])] := by
 have h' : laidMet Tryz.prog (laid.filter fun x => x.2.handleName?.isNone) W ∧ handlesMet Tryz.prog [("errors.errorType", Rows.laid_errors_errorType)] W := h
 obtain⟨name,u,ty,e1,e2,e3,e4,e5⟩:=h'.2 _ (List.mem_singleton.2 rfl);have en:name=[101,114,114,111,114]:=(Option.some.inj e1).symm;subst en;obtain rfl:=Option.some.inj (rtypeIs.symm.trans e2);have hm:ty∈(List.range 291).filter λt=>Tryz.prog.rowNamed t [101,114,114,111,114]:=List.mem_filter.2 ⟨List.mem_range.2 (by rw[<-typesSize];exact e3),e4⟩;rw[oneRow]at hm;obtain rfl:=List.mem_singleton.1 hm;have hh:typeHandle Tryz.prog 32=.pointer (some ⟨9,32,none⟩):=by kernel_rfl
 rw[hh]at e5;exact e5
theorem globPow : Tryz.prog.globalNamed "internal/strconv.uint64pow10" = some 6 := by kernel_rfl
theorem typePow:(Tryz.prog.globals[6]?).map (·.type)=some 256:=by kernel_rfl
theorem undPow:Tryz.prog.underlying 256=some (.array 20 212):=by kernel_rfl
theorem undU64:Tryz.prog.underlying 212=some (.int .u64):=by kernel_rfl
theorem pow_of_laid {W : World} (h : laidMetH Tryz.prog laid W) : Lib.TabIs Tryz.prog W "internal/strconv.uint64pow10" .u64 pows := by
 have h' : laidMet Tryz.prog (laid.filter fun x => x.2.handleName?.isNone) W ∧ handlesMet Tryz.prog [("errors.errorType", Rows.laid_errors_errorType)] W := h
 exact Lib.tabIs_of_head globPow typePow undPow undU64 (by kernel_rfl) (by kernel_rfl) (laidMet.tail (laidMet.tail h'.1))
theorem inv_of_laid {W:World}(h:laidMetH Tryz.prog laid W):Dn.Inv Tryz.prog gtT Dn.St.init (Dn.G0 W) W:=by
 refine Dn.inv0g λg cs hg=>?_;rw[Dn.lk_cons]at hg;by_cases e:6=g
 ·rw[if_pos e]at hg;subst e;cases hg;have hv:=pow_of_laid h;simp only[Lib.TabIs,World.var?,globPow,Option.bind_some]at hv;split at hv
  ·rename_i c ty fr hw;cases hv;refine⟨_,ty,fr,hw,?_⟩;rw[powsA_eq];generalize pows=l
   induction l with
   | nil=>exact Dn.Rl.nil
   | cons a r ih=>exact Dn.Rl.cons (by simp only[Dn.Rv]) ih
  ·cases hv
 ·rw[if_neg e,Dn.lk_cons]at hg;by_cases e0:0=g
  ·rw[if_pos e0]at hg;subst e0;cases hg;have hv:=handle_of_laid h;simp only[World.var?,globET,Option.bind_some]at hv;split at hv
   ·rename_i c ty fr hw;cases hv;refine⟨_,ty,fr,hw,Dn.Rl.single ?_⟩;simp only[Dn.Rv];exact⟨trivial,rfl⟩
   ·cases hv
  ·rw[if_neg e0]at hg;cases hg
noncomputable def handW (os:Os):World :=
 { World.holding Tryz.prog os ⟨#[],#[],[]⟩ with heap:=(World.holding Tryz.prog os ⟨#[],#[],[]⟩).heap.modify 0 fun
   |.cells _ t frozen=>.cells #[.iface 187 (.agg #[.pointer (some ⟨9,32,none⟩)])] t frozen
   | o=>o }
abbrev plain:List (String×DataW Unit):=laid.filter λx=>x.2.handleName?.isNone
noncomputable def laidW (os:Os):World:=(handW os).layVars Tryz.prog plain
theorem laidW_os (os:Os):(laidW os).os=os:=World.layVars_os _ _ _
theorem laidW_fits (os:Os):(handW os).layFits Tryz.prog plain []=true:=by kernel_rfl
theorem laidW_ifaces (os:Os):(handW os).layIfaces Tryz.prog plain (laidW os)=true:=by kernel_rfl
theorem laidW_hand (os:Os):(laid.filter λx=>x.2.handleName?.isSome).all (handleAtB Tryz.prog (laidW os))=true:=by kernel_rfl
theorem laidW_met (os:Os)(args:Array Value):laidMetH Tryz.prog laid ((laidW os).forCall (λ_ _=>0) ⟨#[],args,[]⟩).memory:=by
 have e1:(plain.filter λx=>(plain.map (·.1)).contains x.1)=plain:=List.filter_eq_self.2 λx hx=>List.contains_iff_mem.2 (List.mem_map.2 ⟨x,hx,rfl⟩);have e2:(plain.filter λx=>!(plain.map (·.1)).contains x.1)=[]:=List.filter_eq_nil_iff.2 λx hx=>by rw[List.contains_iff_mem.2 (List.mem_map.2 ⟨x,hx,rfl⟩)];simp
 have h:laidMet Tryz.prog plain (laidW os):=laidMet_layVars (w0:=handW os) (plain.map (·.1)) [] (by rw[e1];rfl) (by rw[e1];exact laidW_fits os) (by rw[e1];exact laidW_ifaces os) (by rw[e2];exact LaidIn.none);have h2:laidMetH Tryz.prog laid (laidW os):=laidMetH_of_parts h (laidW_hand os);exact h2.of_heap (by simp[World.memory,World.forCall,Input.heap])
set_option maxRecDepth 1000000 in
theorem ran:Dn.exec2 gtT (λf=>Dn.lk [(74,Dn.PrimK.errAs 105 107),(76,Dn.PrimK.errIs 105 26)] f) (λf=>Dn.lk C1.tab f) 100000 200 3 [] Dn.St.init Dn.retTrue=true:=by kernel_rfl
end Go.Proofs.YthgidapmofcloaaGreatDoor

namespace Go.Proofs.YthgidapmofcloaaGreatDoor
open Go.Dn Go.RowKit
theorem rv_str {S:St}{G:Gh}{w:World}{s:List UInt8}:Rv S G w (.str s) (.string ⟨s.toArray⟩):=by simp only[Rv]
theorem hbTL:HasBody Tryz.prog 162:=⟨_,Tryz.func162,by kernel_rfl,by kernel_rfl⟩
theorem hbTR:HasBody Tryz.prog 163:=⟨_,Tryz.func163,by kernel_rfl,by kernel_rfl⟩
theorem hbTT:HasBody Tryz.prog 169:=⟨_,Tryz.func169,by kernel_rfl,by kernel_rfl⟩
theorem hbAI:HasBody Tryz.prog 187:=⟨_,Tryz.func187,by kernel_rfl,by kernel_rfl⟩
theorem hbIA:HasBody Tryz.prog 165:=⟨_,Tryz.func165,by kernel_rfl,by kernel_rfl⟩
theorem sh_trimL {cs:List UInt8}(hc:cs.length<4294967281)(ha:∀b∈cs,b.toNat<128)(s:List UInt8):PF (AC Tryz.prog gtT) 162 [.str s,.str cs] (.str (trimL cs s)) :=
 PF.of_calls hbTL (λS G w vs h=>rl_str2 h) (λS G w=>rv_str) λw =>
  Any.strings_TrimLeft_laid Tryz.lays161 (by kernel_rfl) ⟨s.toArray⟩ ⟨cs.toArray⟩ w hc λj b h=>ha b (List.mem_of_getElem? h)
theorem sh_trimR {cs:List UInt8}(hc:cs.length<4294967281)(ha:∀b∈cs,b.toNat<128)(s:List UInt8)(hs:s.length<9223372036854775807):PF (AC Tryz.prog gtT) 163 [.str s,.str cs] (.str (trimR cs s)) :=
 PF.of_calls hbTR (λS G w vs h=>rl_str2 h) (λS G w=>rv_str) λw =>
  Any.strings_TrimRight_laid Tryz.lays162 (by kernel_rfl) ⟨s.toArray⟩ ⟨cs.toArray⟩ w (Nat.le_of_lt hs) hc λj b h=>ha b (List.mem_of_getElem? h)
theorem sh_trim {cs:List UInt8}(hc:cs.length<4294967281)(ha:∀b∈cs,b.toNat<128)(s:List UInt8)(hs:s.length<9223372036854775807):PF (AC Tryz.prog gtT) 169 [.str s,.str cs] (.str (trimA cs s)) :=
 PF.of_calls hbTT (λS G w vs h=>rl_str2 h) (λS G w=>rv_str) λw =>
  Any.strings_Trim_laid Tryz.lays160 (by kernel_rfl) ⟨s.toArray⟩ ⟨cs.toArray⟩ w (Nat.le_of_lt hs) hc λj b h=>ha b (List.mem_of_getElem? h)
theorem decFrom_val (l:List UInt8):∀(a:Nat),l.all dig=true->Lib.decFrom a l=some (valB a l):=by
 induction l with
 | nil=>intro a _;rfl
 | cons b r ih =>
  intro a h;rw[List.all_cons,bA]at h;have hb:=h.1;simp only[dig,bA,decide_eq_true_eq]at hb;have hd:Lib.digitVal b=some (b.toNat-48):=if_pos hb;unfold Lib.decFrom;rw[hd];exact ih _ h.2
theorem atoi_val (l:List UInt8)(h:l.all dig=true)(h1:1<=l.length):Lib.atoi l=some (valB 0 l:Int):=by
 cases l with
 | nil=>simp at h1
 | cons b r =>
  have hb:=h;simp only[List.all_cons,bA,dig,decide_eq_true_eq]at hb;have n1:(b == 45)=false:=by
   cases hh:(b == 45) with
   | false=>rfl
   | true=>rw[beq_iff_eq]at hh;subst hh;exact absurd hb.1.1 (by decide)
  have n2:(b == 43)=false:=by
   cases hh:(b == 43) with
   | false=>rfl
   | true=>rw[beq_iff_eq]at hh;subst hh;exact absurd hb.1.1 (by decide)
  simp only[Lib.atoi,n1,n2,Bool.false_eq_true,if_false,Lib.decNat,List.isEmpty_cons];rw[decFrom_val _ 0 h];rfl
theorem sh_atoi (s:List UInt8)(h:s.all dig=true)(h1:1<=s.length)(h2:s.length<=18):PF (AC Tryz.prog gtT) 187 [.str s] (.tup [.int .i64 (valB 0 s),.nilif]) :=
 PF.of_calls hbAI (λS G w vs h=>rl_str1 h) (v:=.tuple #[.int .i64 (valB 0 s),.nilIface]) (λS G w=>by
   simp only[Rv];exact⟨_,rfl,Rl.cons (by simp only[Rv]) (Rl.cons (by simp only[Rv]) Rl.nil)⟩) λw =>
  (Any.strconv_Atoi Tryz.lays172 ⟨s.toArray⟩ (valB 0 s) h2 (atoi_val s h h1) w).mono λe w' ⟨h1,t,h2⟩=>⟨h1,by rw[h2];exact Joins.below_bytesWorld _ _ _ _ (nR _)⟩
theorem decB_dec:∀n:Nat,Lib.decDigits n=decB n:=λn=>by
 induction n using Nat.strongRecOn with
 | _ n ih =>
  unfold Lib.decDigits decB;split
  ·rfl
  ·rw[ih (n / 10) (by omega)]
theorem itoa_eq (n:Int):Lib.itoa n=itoaB n:=by unfold Lib.itoa itoaB;rw[decB_dec,decB_dec]
theorem pows_tab:Lib.pow10Tab=pows:=by decide
theorem tab_of_inv {S : St} {G : Gh} {w : World} (hI : Inv Tryz.prog gtT S G w) : Lib.TabIs Tryz.prog w "internal/strconv.uint64pow10" .u64 Lib.pow10Tab := by
 rw[pows_tab];obtain⟨_,c,ty,fr,h1,h2⟩:=hI.glob 6 powsA rfl;have:c=(pows.map λz=>Value.int .u64 z).toArray:=by
  rw[powsA_eq]at h2;obtain⟨c⟩:=c;simp only at h2
  congr 1
  clear h1
  revert h2
  generalize pows=l
  induction l generalizing c with
  | nil=>intro h2;simpa only[List.map_nil,Rl] using h2
  | cons a r ih =>
   intro h2;simp only[List.map_cons,Rl,Rv]at h2;obtain⟨v,q,rfl,rfl,h3⟩:=h2;rw[List.map_cons,ih q h3]
 rw[this]at h1;simp only[Lib.TabIs,World.var?,globPow,Option.bind_some,h1]
theorem rl_int1 {S:St}{G:Gh}{w:World}{k:IntKind}{n:Int}{vs:List Value}(h:Rl S G w [.int k n] vs):vs=[.int k n]:=by
 simp only[Rl,Rv]at h;obtain⟨v,r,rfl,rfl,rfl⟩:=h;rfl
theorem sh_itoa (n:Int)(h1:-999999<=n)(h2:n<=999999):PF (AC Tryz.prog gtT) 165 [.int .i64 n] (.str (itoaB n)) :=
 PF.of_callsI hbIA (λS G w vs h=>rl_int1 h) (v:=.string ⟨(Lib.itoa n).toArray⟩) (λS G w=>by rw[itoa_eq];exact rv_str) λS G w hI =>
  (Any.strconv_Itoa Tryz.lays171M n (by omega) (by omega) w (tab_of_inv hI)).mono λe w' ⟨h1,k,os,h2⟩=>⟨h1,by rw[h2];exact Lib.below_grow _ _ (nR _) _ _⟩
end Go.Proofs.YthgidapmofcloaaGreatDoor

namespace Go.Proofs.YthgidapmofcloaaGreatDoor.Fn
open Go.ChangeShapes Go.WideShapes Go.ChangeAt Go.RowKit Go.Dn
abbrev A:CallT:=AC Tryz.prog gtT
theorem hm:MonoC A:=AC_mono
theorem gtSta:GtSta gtT:=λg cs h=>by
 rw[lk_cons]at h;by_cases e:6=g
 ·rw[if_pos e]at h;cases h;rw[powsA_eq];generalize pows=l
  induction l with
  | nil=>exact trivial
  | cons a r ih=>exact⟨trivial,ih⟩
 ·rw[if_neg e,lk_cons]at h;by_cases e0:0=g
  ·rw[if_pos e0]at h;cases h;exact⟨trivial,trivial⟩
  ·rw[if_neg e0]at h;cases h
theorem pf {f : FuncId} {fn : Func} {n : Note} {F : DF} {us : List AV} {u : AV} (hf : Tryz.prog.funcs[f]? = some fn) (hn : (fn.name == "runtime.NumGoroutine") = false) (hp : prepF Tryz.prog n fn = some F) (hs : Stas us) (hw : wpF gtT A F us St.init (Ret u)) : PF A f us u :=
 PF.of_init gtSta hs (AC_intro Tryz.checked.mixed hf hn hp hw)
theorem s1 {a:AV}(h:Sta a):Stas [a]:=⟨h,trivial⟩
theorem s2 {a b:AV}(h:Sta a)(k:Sta b):Stas [a,b]:=⟨h,k,trivial⟩
theorem s3 {a b c:AV}(h:Sta a)(k:Sta b)(l:Sta c):Stas [a,b,c]:=⟨h,k,l,trivial⟩
theorem sK (l:List (List UInt8)):Sta (.sl 1 stat (strs l)):=sta_sl (sta_strs l)
theorem indT {Q:PT->Prop}(h:∀t,(∀u,u.n<t.n->Q u)->Q t)(t:PT):Q t:=(measure PT.n).wf.induction t h
theorem size3:∀(t:PT) (m:Int),m<4611686018427387904->PF A 28 [encT t,.int .i64 m] (.int .i64 (Dn.size3 t m)) :=
 indT λt ih m h=>pf Tryz.func28 (by kernel_rfl) C1.F28_ok (s2 (sta_T t) trivial) (size3_wp hm (λu hu m h=>ih u hu m h) h)
theorem small (t:PT):PF A 26 [encT t] (.bool (smallB t)) :=
 pf Tryz.func26 (by kernel_rfl) C1.F26_ok (s1 (sta_T t)) (small_wp hm size3)
theorem plain:∀t u:PT,t.ok->PF A 32 [encT t,encT u] (.bool (eqT t u)) :=
 indT λt ih u h=>pf Tryz.func32 (by kernel_rfl) C1.F32_ok (s2 (sta_T t) (sta_T u)) (plain_wp hm ih h)
theorem hpre0 (s:List UInt8)(c:UInt8):PF A 204 [.str s,.str [c]] (.bool (hd c s)) :=
 pf Tryz.func204 (by kernel_rfl) C1.F204_ok (s2 trivial trivial) hasPre0_wp
theorem hpre (s:List UInt8)(c:UInt8):PF A 185 [.str s,.str [c]] (.bool (hd c s)) :=
 pf Tryz.func185 (by kernel_rfl) C1.F185_ok (s2 trivial trivial) (hasPre_wp hm hpre0)
theorem tpre0 (s:List UInt8)(c:UInt8):PF A 205 [.str s,.str [c]] (.str (if hd c s then s.drop 1 else s)) :=
 pf Tryz.func205 (by kernel_rfl) C1.F205_ok (s2 trivial trivial) (trimPre0_wp hm hpre0)
theorem tpre (s:List UInt8)(c:UInt8):PF A 186 [.str s,.str [c]] (.str (if hd c s then s.drop 1 else s)) :=
 pf Tryz.func186 (by kernel_rfl) C1.F186_ok (s2 trivial trivial) (trimPre_wp hm tpre0)
theorem digit (b:UInt8):PF A 195 [.int .u8 b.toNat] (.bool (dig b)) :=
 pf Tryz.func195 (by kernel_rfl) C1.F195_ok (s1 trivial) digit_wp
theorem run (s:List UInt8)(h:s.length<9223372036854775807):PF A 164 [.str s] (.int .i64 (runB s)) :=
 pf Tryz.func164 (by kernel_rfl) C1.F164_ok (s1 trivial) (run_wp hm digit h)
theorem cut (s:List UInt8)(h:s.length<9223372036854775807):PF A 160 [.str s] (encCut (cutB s)) :=
 pf Tryz.func160 (by kernel_rfl) C1.F160_ok (s1 trivial) (cut_wp hm hpre tpre run h)
theorem ascii {cs:List UInt8}(h:cs.all (λb=>decide (b.toNat<128))=true):∀b∈cs,b.toNat<128:=λb hb=>of_decide_eq_true (List.all_eq_true.1 h b hb)
theorem tl48 (s:List UInt8):PF A 162 [.str s,.str [48]] (.str (trimL [48] s)):=sh_trimL (by decide) (ascii (by decide)) s
theorem tr48 (s:List UInt8)(h:s.length<9223372036854775807):PF A 163 [.str s,.str [48]] (.str (trimR [48] s)):=sh_trimR (by decide) (ascii (by decide)) s h
theorem exponent (e:List UInt8)(h:(expT e).all dig=true):PF A 161 [.str e] (encExp (expB e)) :=
 pf Tryz.func161 (by kernel_rfl) C1.F161_ok (s1 trivial) (exponent_wp hm hpre (λs=>sh_trimL (by decide) (ascii (by decide)) s) tl48 sh_atoi h)
theorem split (s:List UInt8)(h:s.length<9223372036854775807):PF A 132 [.str s] (encSplit (splitB s)) :=
 pf Tryz.func132 (by kernel_rfl) C1.F132_ok (s1 trivial) (split_wp hm cut exponent tl48 tr48 h)
theorem join (p:Parts3)(h:p.2.1.length<=1000):PF A 133 [encP p] (encJoin (joinB p)) :=
 pf Tryz.func133 (by kernel_rfl) C1.F133_ok (s1 ⟨trivial,trivial,trivial,trivial⟩) (join_wp hm run sh_itoa h)
theorem normal (s:List UInt8)(h:s.length<4294967281):PF A 81 [.str s] (encJoin (normB s)) :=
 pf Tryz.func81 (by kernel_rfl) C1.F81_ok (s1 trivial) (normal_wp hm split join (by omega))
theorem two (s:List UInt8):PF A 166 [.str s] (.int .i64 (twoB s)) :=
 pf Tryz.func166 (by kernel_rfl) C1.F166_ok (s1 trivial) two_wp
theorem within (s:List UInt8)(lo hi:Int):PF A 167 [.str s,.int .i64 lo,.int .i64 hi] (.bool (withinB s lo hi)) :=
 pf Tryz.func167 (by kernel_rfl) C1.F167_ok (s3 trivial trivial trivial) (within_wp hm two)
theorem days (y m:Int):PF A 168 [.int .i64 y,.int .i64 m] (.int .i64 (daysB y m)) :=
 pf Tryz.func168 (by kernel_rfl) C1.F168_ok (s2 trivial trivial) days_wp
theorem date (s:List UInt8):PF A 134 [.str s] (.bool (dateB s)) :=
 pf Tryz.func134 (by kernel_rfl) C1.F134_ok (s1 trivial) (date_wp hm two within days)
theorem clock (s:List UInt8)(h:s.length<9223372036854775807):PF A 135 [.str s] (.bool (clockB s)) :=
 pf Tryz.func135 (by kernel_rfl) C1.F135_ok (s1 trivial) (clock_wp hm within (λs h=>sh_trim (by decide) (ascii (by decide)) s h) h)
theorem hsuf0 (s:List UInt8)(c:UInt8)(h:s.length<9223372036854775807):PF A 197 [.str s,.str [c]] (.bool (tl c s)) :=
 pf Tryz.func197 (by kernel_rfl) C1.F197_ok (s2 trivial trivial) (hasSuf0_wp h)
theorem hsuf (s:List UInt8)(c:UInt8)(h:s.length<9223372036854775807):PF A 170 [.str s,.str [c]] (.bool (tl c s)) :=
 pf Tryz.func170 (by kernel_rfl) C1.F170_ok (s2 trivial trivial) (hasSuf_wp hm hsuf0 h)
theorem zone (s:List UInt8)(h:s.length<9223372036854775807):PF A 136 [.str s] (encZ (zoneB s)) :=
 pf Tryz.func136 (by kernel_rfl) C1.F136_ok (s1 trivial) (zone_wp hm hsuf within h)
theorem idxByte (s:List UInt8)(c:UInt8):PF A 213 [.str s,.int .u8 c.toNat] (.int .i64 (idxB c s 0)) :=
 pf Tryz.func213 (by kernel_rfl) C1.F213_ok (s2 trivial trivial) idxByte_wp
theorem idx1 (s:List UInt8):PF A 198 [.str s,.str [84]] (.int .i64 (idxB 84 s 0)) :=
 pf Tryz.func198 (by kernel_rfl) C1.F198_ok (s2 trivial trivial) (idx1_wp hm idxByte)
theorem cutL (s:List UInt8)(h:s.length<4294967281):PF A 171 [.str s,.str [84]] (.tup [.str (cutC 84 s).1,.str (cutC 84 s).2.1,.bool (cutC 84 s).2.2]) :=
 pf Tryz.func171 (by kernel_rfl) C1.F171_ok (s2 trivial trivial) (cutL_wp hm idx1 (by omega))
theorem cutS (s:List UInt8)(h:s.length<4294967281):PF A 137 [.str s,.str [84]] (.tup [.str (cutC 84 s).1,.str (cutC 84 s).2.1,.bool (cutC 84 s).2.2]) :=
 pf Tryz.func137 (by kernel_rfl) C1.F137_ok (s2 trivial trivial) (cutS_wp hm (cutL s h))
theorem time (s:List UInt8)(h:s.length<4294967281):PF A 83 [.str s] (.bool (timeB s)) :=
 pf Tryz.func83 (by kernel_rfl) C1.F83_ok (s1 trivial) (time_wp hm date clock zone cutS h)
theorem rowU (b:UInt8):PF A 172 [.int .u8 b.toNat] (encLead (leadB b.toNat)) :=
 pf Tryz.func172 (by kernel_rfl) C1.F172_ok (s1 trivial) (row_wp hm b)
theorem charU (c:Int):PF A 173 [.int .i64 c] (.bool (charB c)) :=
 pf Tryz.func173 (by kernel_rfl) C1.F173_ok (s1 trivial) charB_wp
theorem firstU (s:List UInt8)(h:s.length<4611686018427387904):PF A 138 [.str s] (encFirst (firstC s)) :=
 pf Tryz.func138 (by kernel_rfl) C1.F138_ok (s1 trivial) (first_wp hm rowU charU h)
theorem badU (s:List UInt8)(h:s.length<4611686018427387904):PF A 86 [.str s] (.int .i64 (badI s 0)) :=
 pf Tryz.func86 (by kernel_rfl) C1.F86_ok (s1 trivial) (bad_wp hm firstU h)
theorem validU (s:List UInt8)(h:s.length<4611686018427387904):PF A 82 [.str s] (.bool (validB s)) :=
 pf Tryz.func82 (by kernel_rfl) C1.F82_ok (s1 trivial) (validP_wp hm badU h)
theorem unlike (keys:List (List UInt8))(hk:∀s∈keys,s.length<4294967281)(hl:keys.length<9223372036854775807):PF A 84 [.sl 1 stat (strs keys)] (.bool (unlikeB [] keys)) :=
 pf Tryz.func84 (by kernel_rfl) C1.F84_ok (s1 (sK keys)) (unlike_wp hm validU (λs h=>by have:=hk s h;omega) hl)
theorem formed:∀t:PT,t.sok->PF A 50 [encT t] (.bool (formedB t)) :=
 indT λt ih h=>pf Tryz.func50 (by kernel_rfl) C1.F50_ok (s1 (sta_T t)) (formed_wp hm normal (λs h=>validU s (by omega)) time unlike ih h)
theorem sizeP:∀t:PT,t.n<4611686018427387904->PF A 17 [encT t] (.int .i64 t.n) :=
 indT λt ih h=>pf Tryz.func17 (by kernel_rfl) C1.F17_ok (s1 (sta_T t)) (size_wp hm (λu hu=>ih u hu (by omega)) h)
theorem depthP:∀t:PT,t.n<4611686018427387904->PF A 18 [encT t] (.int .i64 t.dp) :=
 indT λt ih h=>pf Tryz.func18 (by kernel_rfl) C1.F18_ok (s1 (sta_T t)) (depth_wp hm (λu hu=>ih u hu (by omega)) h)
theorem right (t:PT)(h:t.n<4611686018427387904)(hk:t.sok):PF A 16 [encT t] (.int .i64 (rightB t)) :=
 pf Tryz.func16 (by kernel_rfl) C1.F16_ok (s1 (sta_T t)) (right_wp hm depthP sizeP formed h hk)
theorem runs:PF A 3 [] (.bool true) :=
 PF.of_init gtSta trivial (AC_mono _ _ _ _ _ (exec2_sound Tryz.checked.mixed C1.tabOK prims 200 3 [] St.init retTrue ran) λr S1 q=>by
  cases r with
  | ret x=>cases x<;>simp only[retTrue,Bool.false_eq_true]at q;subst q;exact⟨_,rfl,by simp only[Rdo]⟩
  | pan x=>simp[retTrue]at q)
end Go.Proofs.YthgidapmofcloaaGreatDoor.Fn

namespace Go.Dn
open Go Go.Proofs.C1
set_option maxRecDepth 100000
attribute [local irreducible] afterS keepE
theorem ofBytes_app (a b:List UInt8):ofBytes (a++b)=ofBytes a++ofBytes b:=by simp[ofBytes]
theorem ofBytes_len (a:List UInt8):(ofBytes a).length=a.length:=by simp[ofBytes]
theorem ofBytes_ok:∀a:List UInt8,((ofBytes a).flatMap AV.cells).all ok1=true
 | []=>rfl
 | x::r=>by simp[ofBytes,AV.cells,ok1]
theorem bytes_of:∀a:List UInt8,bytes? (ofBytes a)=some a
 | []=>rfl
 | x::r=>by
  have:=bytes_of r;simp only[ofBytes]at this;simp[ofBytes,bytes?,this]
theorem sx_cvBS {gt:GT}{d:Option Nat}{env:Env}{S:St}{x:DOpd}{o:SI}{xs ys:List AV}{s:List UInt8}(hx:opd env x=some (.sl 1 o xs))(he:elems S false 1 o xs=some ys)(hy:bytes? ys=some s) :
  stepO gt d env S (.cvBS x)=.done (putV d (.str s) env) S:=by
 simp only[stepO,hx,he,Option.bind_some,hy,Option.map_some,SR.val]

section
variable {gt:GT}{C:CallT}
end

section
variable {gt:GT}{C:CallT}
end

section
variable {gt:GT}{C:CallT}
end
end Go.Dn

namespace Go.Dn
open Go
theorem dropW_nil {p:UInt8->Bool}:∀{l:List UInt8},l.dropWhile p=[]↔∀x∈l,p x=true
 | []=>by simp
 | a::r=>by
  rw[List.dropWhile_cons];by_cases h:p a=true
  ·rw[if_pos h,dropW_nil];simp only[List.mem_cons,forall_eq_or_imp,h,true_and]
  ·rw[if_neg h];simp only[List.mem_cons,forall_eq_or_imp,h,false_and,reduceCtorEq]
theorem trimR_app {cs z r:List UInt8}(h:trimR cs r≠[]):trimR cs (z++r)=z++trimR cs r:=by
 unfold trimR at h ⊢;rw[List.reverse_append,List.dropWhile_append,if_neg (by simpa using h),List.reverse_append,List.reverse_reverse]
theorem trimR_pre (cs r:List UInt8):trimR cs r <+: r:=by
 unfold trimR;rw[<-List.reverse_suffix,List.reverse_reverse];exact List.dropWhile_suffix _
theorem trimL_all {cs z:List UInt8}(h:∀x∈z,cs.contains x=true):trimL cs z=[]:=dropW_nil.2 h
theorem trimR_all {cs z:List UInt8}(h:∀x∈z,cs.contains x=true):trimR cs z=[]:=by
 unfold trimR;rw[dropW_nil.2 λx hx=>h x (List.mem_reverse.1 hx)];rfl
theorem trimR_head {cs:List UInt8}{b:UInt8}{r:List UInt8}(h:cs.contains b=false):trimR cs (b::r)≠[]/\trimL cs (trimR cs (b::r))=trimR cs (b::r):=by
 have h1:trimR cs (b::r)≠[]:=by
  intro e;unfold trimR at e;rw[List.reverse_eq_nil_iff,dropW_nil]at e;have:=e b (by simp);rw[h]at this;cases this
 refine⟨h1,?_⟩;obtain⟨t,ht⟩:=trimR_pre cs (b::r);cases hh:trimR cs (b::r) with
 | nil=>exact absurd hh h1
 | cons c q =>
  rw[hh]at ht;simp only[List.cons_append,List.cons.injEq]at ht;obtain⟨rfl,_⟩:=ht;unfold trimL;rw[List.dropWhile_cons_of_neg (by rw[h];simp)]
theorem trim_comm (cs d:List UInt8):trimL cs (trimR cs d)=trimR cs (trimL cs d)/\(trimR cs (trimL cs d)≠[]->d.length-(trimR cs d).length=(trimL cs d).length-(trimR cs (trimL cs d)).length):=by
 have hd:=List.takeWhile_append_dropWhile (p:=(cs.contains ·)) (l:=d);have hz:∀x∈d.takeWhile (cs.contains ·),cs.contains x=true:=λx hx=>List.all_takeWhile (l:=d) (p:=(cs.contains ·)) |> λh=>by
  have:=List.all_eq_true.1 h x hx;simpa using this
 cases hr:d.dropWhile (cs.contains ·) with
 | nil =>
  rw[hr,List.append_nil]at hd;rw[hd]at hz;rw[trimR_all hz,trimL_all hz];exact⟨rfl,λh=>absurd rfl h⟩
 | cons b r =>
  have hb:cs.contains b=false:=by
   have:=List.head_dropWhile_not (p:=(cs.contains ·)) (l:=d) (by rw[hr];simp);simp only[hr,List.head_cons]at this;exact this
  rw[hr]at hd;have hL:trimL cs d=b::r:=hr;obtain⟨h1,h2⟩:=trimR_head (r:=r) hb;have hR:trimR cs d=d.takeWhile (cs.contains ·)++trimR cs (b::r):=by
   conv=>lhs;rw[<-hd]
   exact trimR_app h1
  rw[hL];refine⟨?_,λ_=>?_⟩
  ·rw[hR];unfold trimL;rw[List.dropWhile_append,dropW_nil.2 hz];exact h2
  ·rw[hR,lA];have:=congrArg List.length hd;rw[lA]at this;omega
end Go.Dn

namespace Go.Dn
open Go Go.Proofs.C1
set_option maxRecDepth 100000
attribute [local irreducible] afterS keepE
theorem decB_step {n:Nat}(h:¬n<10):decB n=decB (n / 10)++[UInt8.ofNat (48+n % 10)]:=by
 conv=>lhs;unfold decB
 rw[dif_neg h]
section
variable {gt:GT}{C:CallT}
end

section
variable {gt:GT}{C:CallT}
end

section
variable {gt:GT}{C:CallT}
end

section
variable {gt:GT}{C:CallT}
end

def DC.lf:DC->DC |.seq a _=>a | c=>c
section
variable {gt:GT}{C:CallT}
end

section
variable {gt:GT}{C:CallT}
end

section
variable {gt:GT}{C:CallT}
end

section
variable {gt:GT}{C:CallT}
end

section
variable {gt:GT}{C:CallT}
end

theorem valB_nil (a:Nat):valB a []=a:=rfl
theorem valB_cons (a:Nat)(b:UInt8)(r:List UInt8):valB a (b::r)=valB (a*10+(b.toNat-48)) r:=by
 have h:valB a (b::r)=valB (a*10+(b.toNat-48)) r:=Eq.refl _;exact h
theorem valB_snoc (b:UInt8)(l:List UInt8):∀(a:Nat),valB a (l++[b])=valB a l*10+(b.toNat-48):=by
 induction l with
 | nil=>intro a;rw[List.nil_append,valB_cons,valB_nil,valB_nil]
 | cons c r ih=>intro a;rw[List.cons_append,valB_cons,valB_cons];exact ih _
section
variable {gt:GT}{C:CallT}
end

section
variable {gt:GT}{C:CallT}
end

theorem tenD_all:(List.range 256).all (λn=>tenD.contains (UInt8.ofNat n) == dig (UInt8.ofNat n))=true:=by kernel_rfl
theorem tenD_dig (b:UInt8):tenD.contains b=dig b:=by
 have:=List.all_eq_true.1 tenD_all b.toNat (List.mem_range.2 (u8_lt b))
 rwa [UInt8.ofNat_toNat,beq_iff_eq]at this
theorem trimA_nil {cs t:List UInt8}:trimA cs t=[]↔∀x∈t,cs.contains x=true:=by
 unfold trimA;constructor
 ·intro h;rw[(trim_comm cs t).1]at h;cases ht:trimL cs t with
  | nil=>exact dropW_nil.1 ht
  | cons b r =>
   exfalso;rw[ht]at h;have hb:cs.contains b=false:=by
    have:=List.head_dropWhile_not (p:=(cs.contains ·)) (l:=t) (by show trimL cs t≠[];rw[ht];simp);have e:t.dropWhile (cs.contains ·)=b::r:=ht;simp only[e,List.head_cons]at this;exact this
   exact(trimR_head hb).1 h
 ·intro h;rw[trimR_all h];rfl
section
variable {gt:GT}{C:CallT}
end

section
variable {gt:GT}{C:CallT}
end
end Go.Dn

namespace Go.Dn
open Go
end Go.Dn

namespace Go.Proofs.YthgidapmofcloaaGreatDoor.Fn
open Go.ChangeShapes Go.WideShapes Go.ChangeAt Go.RowKit Go.Dn
end Go.Proofs.YthgidapmofcloaaGreatDoor.Fn

namespace Go.Dn
open Go
theorem goJ {G G':Prop}(k:G')(h:G'->G:=by
 intro hk;((try refine And.intro (by rfl) ?_);(conv=>whnf);(repeat (refine sI (by rfl) ?_;conv=>whnf));(generalize hE:keepE _ _=e0;revert hE;apply kI;(repeat (first | exact kN _ | (apply kC;with_unfolding_all rfl;rfl)));rintro rfl));exact hk):G:=h k
end Go.Dn

namespace Go.Dn
open Go Go.Proofs.C1
set_option maxRecDepth 100000
attribute [local irreducible] afterS keepE
def hexV (b:UInt8):Int:=if 48<=b.toNat/\b.toNat<=57 then b.toNat-48 else if 97<=b.toNat/\b.toNat<=102 then b.toNat-87 else if 65<=b.toNat/\b.toNat<=70 then b.toNat-55 else -1
theorem hexV_bd (b:UInt8):-1<=hexV b/\hexV b<16:=by
 unfold hexV;split
 ·omega
 ·split
  ·omega
  ·split<;>omega
def numH:List UInt8->Nat->Nat->Int
 | _,0,n=>n
 | [],_+1,_=>-1
 | b::r,k+1,n=>if hexV b<0 then -1 else numH r k (n*16+(hexV b).toNat)
theorem numH_short:∀{s:List UInt8} {k n:Nat},s.length<k->numH s k n=-1
 | s,0,_,h=>by omega
 | [],_+1,_,_=>rfl
 | b::r,k+1,n,h=>by
  rw[numH];split
  ·rfl
  ·exact numH_short (by simp only[lC]at h;omega)
theorem numH_bd:∀{s:List UInt8} {k n:Nat},numH s k n=-1\/(k<=s.length/\0<=numH s k n/\numH s k n<(((n+1)*16 ^ k:Nat):Int))
 | s,0,n=>.inr ⟨Nat.zero_le _,by simp[numH],by simp[numH];omega⟩
 | [],_+1,_=>.inl rfl
 | b::r,k+1,n=>by
  rw[numH];split
  ·exact .inl rfl
  ·have hb:=hexV_bd b;rcases numH_bd (s:=r) (k:=k) (n:=n*16+(hexV b).toNat) with h | ⟨h1,h2,h3⟩
   ·exact .inl h
   ·refine .inr ⟨by simp only[lC];omega,h2,?_⟩;have h4:(n*16+(hexV b).toNat+1)*16 ^ k<=((n+1)*16)*16 ^ k:=Nat.mul_le_mul_right _ (by omega);rw[show (n+1)*16 ^ (k+1)=((n+1)*16)*16 ^ k by rw[Nat.pow_succ,Nat.mul_assoc,Nat.mul_comm 16]];exact Int.lt_of_lt_of_le h3 (Int.ofNat_le.2 h4)
def pairB (r:List UInt8):Option (Nat×Nat):=if numH r 4 0<0 then none else if numH r 4 0<55296\/numH r 4 0 > 57343 then some ((numH r 4 0).toNat,5) else if numH r 4 0 ≥ 56320\/decide ([92,117] <+: r.drop 4)=false then none else
 if numH (r.drop 6) 4 0<56320\/numH (r.drop 6) 4 0 > 57343 then none else some ((65536+(numH r 4 0-55296)*1024+numH (r.drop 6) 4 0-56320).toNat,11)
def escU:List UInt8->Option (Nat×Nat)
 | []=>none
 | c::r=>if c.toNat=34\/c.toNat=92\/c.toNat=47 then some (c.toNat,1) else if c.toNat=98 then some (8,1) else if c.toNat=116 then some (9,1) else if c.toNat=110 then some (10,1) else if c.toNat=102 then some (12,1) else if c.toNat=114 then some (13,1) else
  if c.toNat=117 then pairB r else none
def encEsc:Option (Nat×Nat)->AV
 | some p=>.tup [.int .i64 p.1,.int .i64 p.2]
 | none=>.tup [.int .i64 0,.int .i64 0]
def encC (c:Nat):List UInt8:=if c<128 then [UInt8.ofNat c] else if c<2048 then [UInt8.ofNat (192+c / 64),UInt8.ofNat (128+c % 64)] else if c<65536 then [UInt8.ofNat (224+c / 4096),UInt8.ofNat (128+c / 64 % 64),UInt8.ofNat (128+c % 64)] else
 [UInt8.ofNat (240+c / 262144),UInt8.ofNat (128+c / 4096 % 64),UInt8.ofNat (128+c / 64 % 64),UInt8.ofNat (128+c % 64)]
section
variable {gt:GT}{C:CallT}
theorem value_wp {b:UInt8}:wpF gt C F234 [.int .u8 b.toNat] St.init (Ret (.int .i64 (hexV b))):=by
 have hb:=u8_lt b;have w8:∀n:Nat,n<256->wr .u8 (n:Int)=n:=λn h=>by rw[wr_eq];exact wrap8 h
 refine⟨rfl,?_⟩;refine goW ?_;by_cases a1:(b.toNat:Int) ≥ 48
 ·rw[dT a1];refine goW ?_;by_cases a2:(b.toNat:Int)<=57
  ·rw[dT a2];refine goW ?_;rw[show (b.toNat:Int)-48=((b.toNat-48:Nat):Int) by omega,w8 _ (by omega),wr64 (by omega) (by omega)];refine⟨_,rfl,?_⟩;rw[show hexV b=((b.toNat-48:Nat):Int) by unfold hexV;rw[if_pos (by omega)];omega];exact Ret.sta trivial
  rw[dF a2];refine goW ?_;by_cases a3:(b.toNat:Int) ≥ 97
  ·rw[dT a3];refine goW ?_;by_cases a4:(b.toNat:Int)<=102
   ·rw[dT a4];refine goW ?_;rw[show (b.toNat:Int)-97=((b.toNat-97:Nat):Int) by omega,w8 _ (by omega),wr64 (n:=((b.toNat-97:Nat):Int)) (by omega) (by omega),wr64 (by omega) (by omega)];refine⟨_,rfl,?_⟩;rw[show hexV b=((b.toNat-97:Nat):Int)+10 by unfold hexV;rw[if_neg (by omega),if_pos (by omega)];omega];exact Ret.sta trivial
   rw[dF a4];refine goW ?_;rw[dT (show (b.toNat:Int) ≥ 65 by omega)];refine goW ?_;rw[dF (show ¬(b.toNat:Int)<=70 by omega)];refine goW ?_;refine⟨_,rfl,?_⟩;rw[show hexV b=-1 by unfold hexV;rw[if_neg (by omega),if_neg (by omega),if_neg (by omega)]];exact Ret.sta trivial
  rw[dF a3];refine goW ?_;by_cases a5:(b.toNat:Int) ≥ 65
  ·rw[dT a5];refine goW ?_;by_cases a6:(b.toNat:Int)<=70
   ·rw[dT a6];refine goW ?_;rw[show (b.toNat:Int)-65=((b.toNat-65:Nat):Int) by omega,w8 _ (by omega),wr64 (n:=((b.toNat-65:Nat):Int)) (by omega) (by omega),wr64 (by omega) (by omega)];refine⟨_,rfl,?_⟩;rw[show hexV b=((b.toNat-65:Nat):Int)+10 by unfold hexV;rw[if_neg (by omega),if_neg (by omega),if_pos (by omega)];omega];exact Ret.sta trivial
   rw[dF a6];refine goW ?_;refine⟨_,rfl,?_⟩;rw[show hexV b=-1 by unfold hexV;rw[if_neg (by omega),if_neg (by omega),if_neg (by omega)]];exact Ret.sta trivial
  rw[dF a5];refine goW ?_;refine⟨_,rfl,?_⟩;rw[show hexV b=-1 by unfold hexV;rw[if_neg (by omega),if_neg (by omega),if_neg (by omega)]];exact Ret.sta trivial
 rw[dF a1];refine goW ?_;rw[dF (show ¬(b.toNat:Int) ≥ 97 by omega)];refine goW ?_;rw[dF (show ¬(b.toNat:Int) ≥ 65 by omega)];refine goW ?_;refine⟨_,rfl,?_⟩;rw[show hexV b=-1 by unfold hexV;rw[if_neg (by omega),if_neg (by omega),if_neg (by omega)]];exact Ret.sta trivial
theorem or16 {a b:Nat}(hb:b<16)(ha:a*16+b<9223372036854775808) :
  IntKind.wrap .i64 ((BitVec.ofInt (IntKind.bits .i64) ((a*16:Nat):Int) ||| BitVec.ofInt (IntKind.bits .i64) (b:Int)).toNat:Int)=((a*16+b:Nat):Int):=by
 rw[show IntKind.bits .i64=64 from rfl,BitVec.ofInt_natCast,BitVec.ofInt_natCast,BitVec.toNat_or,BitVec.toNat_ofNat,BitVec.toNat_ofNat,Nat.mod_eq_of_lt (show a*16<2 ^ 64 by omega),Nat.mod_eq_of_lt (show b<2 ^ 64 by omega)];have:=Nat.shiftLeft_add_eq_or_of_lt (i:=4) (b:=b) (by omega) a;rw[Nat.shiftLeft_eq]at this;rw[show a*16=a*2 ^ 4 by omega,<-this,wrap64 (by omega)]
theorem step16 {n q:Nat}(hq:q<16)(hn:n<1125899906842624) :
  IntKind.wrap .i64 ((BitVec.ofInt (IntKind.bits .i64) (wr .i64 ((n:Int)*2 ^ (min (Int.toNat 4) (IntKind.bits .i64)))) ||| BitVec.ofInt (IntKind.bits .i64) (q:Int)).toNat:Int)=((n*16+q:Nat):Int):=by
 have e1:wr .i64 ((n:Int)*2 ^ (min (Int.toNat 4) (IntKind.bits .i64)))=((n*16:Nat):Int):=by
  rw[show min (Int.toNat 4) (IntKind.bits .i64)=4 by decide,show ((2:Int) ^ 4)=16 by decide,wr64 (by omega) (by omega)];omega
 rw[e1,or16 hq (by omega)]
abbrev E_hex (s:List UInt8)(n k i:Int):Env:=[(0,.val (.str s)),(5,.val (.int .i64 n)),(12,.val (.int .i64 k)),(13,.val (.int .i64 i))]
theorem hex_wp (hm:MonoC C)(hv:∀b:UInt8,PF C 234 [.int .u8 b.toNat] (.int .i64 (hexV b))){s:List UInt8}{k:Nat}(hk:k<=4):wpF gt C F217 [.str s,.int .i64 k] St.init (Ret (.int .i64 (numH s k 0))):=by
 refine⟨rfl,?_⟩;refine goW ?_;by_cases c:(s.length:Int)<k
 ·rw[dT c];refine goW ?_;refine⟨_,rfl,?_⟩;rw[numH_short (by omega)];exact Ret.sta trivial
 rw[dF c];refine goW ?_;refine loop_rule hm (α:=Nat) (λi env S'=>∃n:Nat,i<=k/\n<16 ^ i/\numH s k 0=numH (s.drop i) (k-i) n/\env=E_hex s n k i/\S'=St.init) (λi=>k-i) ?_ (a:=0) ⟨0,Nat.zero_le _,by simp,rfl,rfl,rfl⟩;rintro i env S' ⟨n,hi,hn,hp,rfl,rfl⟩;refine goW ?_;by_cases c2:(i:Int)<k
 case neg =>
  rw[dF c2];obtain rfl:k=i:=by omega
  rw[Nat.sub_self,numH]at hp;refine goW ?_;exact⟨_,rfl,by rw[hp];exact Ret.sta trivial⟩
 rw[dT c2];have his:i<s.length:=by omega
 have hge:s[i]? = some s[i]:=gE his;rw[dC his,show k-i=(k-(i+1))+1 by omega,numH]at hp;have hb:=hexV_bd s[i];have hv:=hv s[i];generalize s[i]=b at hge hp hb hv;refine goW ?_;refine step_ruleO (sx_ixS (k:=i) rfl rfl hge) (goW ?_);refine call_pf hm (by rfl) hv (goW ?_);by_cases c3:hexV b<0
 ·rw[dT c3];rw[if_pos c3]at hp;refine goW ?_;exact⟨_,rfl,by rw[hp];exact Ret.sta trivial⟩
 rw[dF c3];rw[if_neg c3]at hp;obtain⟨q,hq⟩:∃q:Nat,hexV b=q:=⟨(hexV b).toNat,by omega⟩
 rw[hq]at hp hb ⊢;rw[Int.toNat_natCast]at hp;have h16:16 ^ (i+1)<=16 ^ 4:=Nat.pow_le_pow_right (by decide) (by omega);have h17:(n+1)*16<=16 ^ (i+1):=by rw[Nat.pow_succ];exact Nat.mul_le_mul_right _ hn
 have e4:(16:Nat) ^ 4=65536:=by decide
 generalize 16 ^ (i+1)=pw at h16 h17;generalize (16:Nat) ^ 4=p4 at h16 e4;refine goW ?_;rw[step16 (by omega) (by omega),wrNat (by omega)];exact⟨i+1,⟨n*16+q,by omega,by omega,hp,rfl,rfl⟩,by omega⟩
end

section
variable {gt:GT}{C:CallT}
theorem hasPreU_wp {s p:List UInt8}(hs:s.length<9223372036854775807):wpF gt C F204 [.str s,.str p] St.init (Ret (.bool (decide (p <+: s)))):=by
 refine⟨rfl,?_⟩;refine goW ?_;by_cases c:(s.length:Int) ≥ p.length
 ·rw[dT c];refine goW ?_;refine st_any (by exact rfl) (sx_slHiS (h:=p.length) rfl rfl (by omega)) (goW ?_);refine⟨_,rfl,?_⟩;rw[show decide (p <+: s)=beqB (s.take p.length) p by
   by_cases h:s.take p.length=p
   ·rw[beqB_true h,dT (List.prefix_iff_eq_take.2 h.symm)]
   ·rw[beqB_false h,dF λe=>h (List.prefix_iff_eq_take.1 e).symm]]
  exact Ret.sta trivial
 ·rw[dF c];refine goW ?_;refine⟨_,rfl,?_⟩;rw[dF (λe:p <+: s=>c (by have:=e.length_le;omega))];exact Ret.sta trivial
theorem hasPreW_wp (hm:MonoC C){s p:List UInt8}(h:PF C 204 [.str s,.str p] (.bool (decide (p <+: s)))):wpF gt C F185 [.str s,.str p] St.init (Ret (.bool (decide (p <+: s)))):=by
 generalize decide (p <+: s)=b at *;refine⟨rfl,?_⟩;refine goW ?_;refine call_pf hm (by rfl) h (goW ?_);exact⟨_,rfl,Ret.sta trivial⟩
theorem sta_esc (x:Option (Nat×Nat)):Sta (encEsc x):=by cases x<;>exact⟨trivial,trivial,trivial⟩
theorem pair_wp (hm:MonoC C)(hh:∀s:List UInt8,PF C 217 [.str s,.int .i64 4] (.int .i64 (numH s 4 0)))(hpre:∀s:List UInt8,s.length<4611686018427387904->PF C 185 [.str s,.str [92,117]] (.bool (decide ([92,117] <+: s))))
  {c:UInt8} {r:List UInt8} (hl:r.length<4611686018427387903):wpF gt C F199 [.str (c::r)] St.init (Ret (encEsc (pairB r))):=by
 have hb:=numH_bd (s:=r) (k:=4) (n:=0);have hb2:=numH_bd (s:=r.drop 6) (k:=4) (n:=0);have h1:=hh r;have h2:=hh (r.drop 6);have hp:=hpre (r.drop 4) (by rw[lD];omega);have hpl:decide ([92,117] <+: r.drop 4)=true->6<=r.length:=λh=>by have:=(of_decide_eq_true h).length_le;simp only[lD,lC,lN]at this;omega
 have hpb:pairB r=if numH r 4 0<0 then none else if numH r 4 0<55296\/numH r 4 0 > 57343 then some ((numH r 4 0).toNat,5) else if numH r 4 0 ≥ 56320\/decide ([92,117] <+: r.drop 4)=false then none else
  if numH (r.drop 6) 4 0<56320\/numH (r.drop 6) 4 0 > 57343 then none else some ((65536+(numH r 4 0-55296)*1024+numH (r.drop 6) 4 0-56320).toNat,11):=rfl
 generalize pairB r=pb at *;generalize decide ([92,117] <+: r.drop 4)=P at *;generalize numH r 4 0=a at *;generalize numH (r.drop 6) 4 0=b at *;have e16:(((0+1)*16 ^ 4:Nat):Int)=65536:=by decide
 rw[e16]at hb hb2;have none_:∀{S:St},pb=none->Ret (encEsc pb) (.ret (.tup [.int .i64 0,.int .i64 0])) S:=λh=>by rw[h];exact Ret.sta (sta_esc none)
 refine⟨rfl,?_⟩;refine goW ?_;refine step_ruleO (sx_slLo (l:=1) rfl rfl (by simp)) ?_;rw[show (c::r).drop 1=r from rfl];refine goW ?_;refine call_pf hm (by rfl) h1 (goW ?_);by_cases a1:a<55296
 ·rw[dT a1];refine goW ?_;by_cases a0:a<0
  ·rw[dT a0];refine goW ?_;exact⟨_,rfl,none_ (by rw[hpb,if_pos a0])⟩
  ·rw[dF a0];refine goW ?_;refine⟨_,rfl,?_⟩;rw[hpb,if_neg a0,if_pos (.inl a1)];simp only[encEsc];rw[Int.toNat_of_nonneg (by omega)];exact Ret.sta (u:=.tup [.int .i64 a,.int .i64 5]) ⟨trivial,trivial,trivial⟩
 rw[dF a1];have ha4:4<=r.length:=by rcases hb with h | h;omega;exact h.1
 refine goW ?_;by_cases a2:a > 57343
 ·rw[dT a2];refine goW ?_;rw[dF (show ¬a<0 by omega)];refine goW ?_;refine⟨_,rfl,?_⟩;rw[hpb,if_neg (by omega),if_pos (.inr a2)];simp only[encEsc];rw[Int.toNat_of_nonneg (by omega)];exact Ret.sta (u:=.tup [.int .i64 a,.int .i64 5]) ⟨trivial,trivial,trivial⟩
 rw[dF a2];rw[if_neg (by omega),if_neg (by omega)]at hpb;refine goW ?_;by_cases a3:a ≥ 56320
 ·rw[dT a3];rw[if_pos (.inl a3)]at hpb;refine goW ?_;exact⟨_,rfl,none_ hpb⟩
 rw[dF a3];refine goW ?_;refine st_any (by exact rfl) (sx_slLo (l:=5) rfl rfl (by simp only[lC];omega)) ?_;rw[show (c::r).drop 5=r.drop 4 from rfl];refine goW ?_;refine call_pf hm (by rfl) hp ?_;cases P with
 | false =>
  rw[if_pos (.inr rfl)]at hpb;refine goW ?_;exact⟨_,rfl,none_ hpb⟩
 | true =>
 have hpl:=hpl rfl;rw[if_neg (by simp;omega)]at hpb;refine goW ?_;refine step_ruleO (sx_slLo (l:=7) rfl rfl (by simp only[lC];omega)) ?_;rw[show (c::r).drop 7=r.drop 6 from rfl];refine goW ?_;refine call_pf hm (by rfl) h2 (goW ?_);by_cases b1:b<56320
 ·rw[dT b1];rw[if_pos (.inl b1)]at hpb;refine goW ?_;exact⟨_,rfl,none_ hpb⟩
 rw[dF b1];refine goW ?_;by_cases b2:b > 57343
 ·rw[dT b2];rw[if_pos (.inr b2)]at hpb;refine goW ?_;exact⟨_,rfl,none_ hpb⟩
 rw[dF b2];rw[if_neg (by omega)]at hpb;refine goW ?_;rw[wr64 (n:=a-55296) (by omega) (by omega)];have es:wr .i64 ((a-55296)*2 ^ (min (Int.toNat 10) (IntKind.bits .i64)))=(a-55296)*1024:=by
  rw[show min (Int.toNat 10) (IntKind.bits .i64)=10 by decide,show ((2:Int) ^ 10)=1024 by decide,wr64 (by omega) (by omega)]
 rw[es,wr64 (n:=65536+(a-55296)*1024) (by omega) (by omega),wr64 (n:=65536+(a-55296)*1024+b) (by omega) (by omega),wr64 (n:=65536+(a-55296)*1024+b-56320) (by omega) (by omega)];refine⟨_,rfl,?_⟩;rw[hpb];simp only[encEsc];rw[Int.toNat_of_nonneg (by omega)];exact Ret.sta (u:=.tup [.int .i64 (65536+(a-55296)*1024+b-56320),.int .i64 11]) ⟨trivial,trivial,trivial⟩
theorem escaped_wp (hm:MonoC C)(hp:∀(c:UInt8) (r:List UInt8),r.length<4611686018427387903->PF C 199 [.str (c::r)] (encEsc (pairB r))){s:List UInt8}(hl:s.length<4611686018427387904) :
  wpF gt C F174 [.str s] St.init (Ret (encEsc (escU s))):=by
 refine⟨rfl,?_⟩;cases s with
 | nil =>
  refine goW ?_;exact⟨_,rfl,Ret.sta (sta_esc none)⟩
 | cons c r =>
 have hp:=hp c r (by simp only[lC]at hl;omega);have hge:(c::r)[0]? = some c:=rfl;have hne:beqB (c::r) []=false:=rfl;have he:escU (c::r)=if c.toNat=34\/c.toNat=92\/c.toNat=47 then some (c.toNat,1) else if c.toNat=98 then some (8,1) else if c.toNat=116 then some (9,1) else if c.toNat=110 then some (10,1) else if c.toNat=102 then some (12,1) else if c.toNat=114 then some (13,1) else
  if c.toNat=117 then pairB r else none:=rfl
 generalize c::r=s at *;generalize pairB r=pb at *;generalize escU s=eb at *;have hc:=u8_lt c;have fin:∀{x:Option (Nat×Nat)} {S:St},eb=x->Ret (encEsc eb) (.ret (encEsc x)) S:=λh=>by rw[h];exact Ret.sta (sta_esc _)
 refine goW ?_;rw[hne];refine goW ?_;refine step_ruleO (sx_ixS (k:=0) rfl rfl hge) (goW ?_);by_cases e34:(c.toNat:Int)=34
 ·rw[eqI_true e34];refine goW ?_;refine step_ruleO (sx_ixS (k:=0) rfl rfl hge) (goW ?_);rw[wr64 (by omega) (by omega)];exact⟨_,rfl,fin (x:=some (c.toNat,1)) (by rw[he,if_pos (by omega)])⟩
 rw[eqI_false e34];refine goW ?_;by_cases e92:(c.toNat:Int)=92
 ·rw[eqI_true e92];refine goW ?_;refine step_ruleO (sx_ixS (k:=0) rfl rfl hge) (goW ?_);rw[wr64 (by omega) (by omega)];exact⟨_,rfl,fin (x:=some (c.toNat,1)) (by rw[he,if_pos (by omega)])⟩
 rw[eqI_false e92];refine goW ?_;by_cases e47:(c.toNat:Int)=47
 ·rw[eqI_true e47];refine goW ?_;refine step_ruleO (sx_ixS (k:=0) rfl rfl hge) (goW ?_);rw[wr64 (by omega) (by omega)];exact⟨_,rfl,fin (x:=some (c.toNat,1)) (by rw[he,if_pos (by omega)])⟩
 rw[eqI_false e47];refine goW ?_;by_cases e98:(c.toNat:Int)=98
 ·rw[eqI_true e98];refine goW ?_;exact⟨_,rfl,fin (x:=some (8,1)) (by rw[he,if_neg (by omega),if_pos (by omega)])⟩
 rw[eqI_false e98];refine goW ?_;by_cases e116:(c.toNat:Int)=116
 ·rw[eqI_true e116];refine goW ?_;exact⟨_,rfl,fin (x:=some (9,1)) (by rw[he,if_neg (by omega),if_neg (by omega),if_pos (by omega)])⟩
 rw[eqI_false e116];refine goW ?_;by_cases e110:(c.toNat:Int)=110
 ·rw[eqI_true e110];refine goW ?_;exact⟨_,rfl,fin (x:=some (10,1)) (by rw[he,if_neg (by omega),if_neg (by omega),if_neg (by omega),if_pos (by omega)])⟩
 rw[eqI_false e110];refine goW ?_;by_cases e102:(c.toNat:Int)=102
 ·rw[eqI_true e102];refine goW ?_;exact⟨_,rfl,fin (x:=some (12,1)) (by rw[he,if_neg (by omega),if_neg (by omega),if_neg (by omega),if_neg (by omega),if_pos (by omega)])⟩
 rw[eqI_false e102];refine goW ?_;by_cases e114:(c.toNat:Int)=114
 ·rw[eqI_true e114];refine goW ?_;exact⟨_,rfl,fin (x:=some (13,1)) (by rw[he,if_neg (by omega),if_neg (by omega),if_neg (by omega),if_neg (by omega),if_neg (by omega),if_pos (by omega)])⟩
 rw[eqI_false e114];refine goW ?_;by_cases e117:(c.toNat:Int)=117
 ·rw[eqI_true e117];have hfin:Ret (encEsc eb) (.ret (encEsc pb)) St.init:=fin (x:=pb) (by rw[he,if_neg (by omega),if_neg (by omega),if_neg (by omega),if_neg (by omega),if_neg (by omega),if_neg (by omega),if_pos (by omega)])
  clear fin he
  cases pb with
  | none =>
   refine goW ?_;refine call_pf hm (by rfl) hp (goW ?_);exact⟨_,rfl,hfin⟩
  | some p =>
   refine goW ?_;refine call_pf hm (by rfl) hp (goW ?_);exact⟨_,rfl,hfin⟩
 rw[eqI_false e117];refine goW ?_;exact⟨_,rfl,fin (x:=none) (by rw[he,if_neg (by omega),if_neg (by omega),if_neg (by omega),if_neg (by omega),if_neg (by omega),if_neg (by omega),if_neg (by omega)])⟩
end
end Go.Dn

namespace Go.Dn
open Go
theorem beqA_int {k:IntKind}{n:Int}:beqA (.int k n) (.int k n)=true:=by simp[beqA]
theorem stab_nil {gt:GT}{env:Env}{S:St}:stab gt [] env S=true:=rfl
theorem stab_at {gt:GT}{d:Nat}{op:DOp}{gd:Option (Nat×Bool)}{l:Option Nat}{xs:List (DI×Option Nat)}{env:Env}{S:St}{v:AV}(h0:isLoc op=false)(h1:conform l env op=true)(hg:Gd env gd)(h:stepO gt (some d) env S op=.done (putV (some d) v env) S)
  (h2:lk env d=some (.val v)) (hb:beqA v v=true) (r:stab gt xs env S=true):stab gt ((⟨some d,op,gd⟩,l)::xs) env S=true:=by
 have hs:stepD gt (⟨some d,op,gd⟩,l) env S=.done (putV (some d) v env) S:=by
  rw[<-h];cases gd with
  | none=>simp only[stepD,stepDO,h0,h1,cond_false,cond_true]
  | some p =>
   obtain⟨g,w⟩:=p;have hg:lk env g=some (.val (.bool w)):=hg;simp only[stepD,stepDO,h0,h1,cond_false,cond_true,hg,beq_self_eq_true]
 unfold stab at r ⊢;rw[List.all_cons,r,Bool.and_true];unfold stays;simp only[hs,h2];have:lk (putV (some d) v env) d=some (.val v):=lk_same _ _ _;rw[this];exact hb
end Go.Dn

namespace Go.Dn
open Go Go.Proofs.C1
set_option maxRecDepth 100000
attribute [local irreducible] afterS keepE
theorem orN {i a b:Nat}(hb:b<2 ^ i)(ha:a*2 ^ i+b<9223372036854775808) :
  IntKind.wrap .i64 ((BitVec.ofInt (IntKind.bits .i64) ((a*2 ^ i:Nat):Int) ||| BitVec.ofInt (IntKind.bits .i64) (b:Int)).toNat:Int)=((a*2 ^ i+b:Nat):Int):=by
 rw[show IntKind.bits .i64=64 from rfl,BitVec.ofInt_natCast,BitVec.ofInt_natCast,BitVec.toNat_or,BitVec.toNat_ofNat,BitVec.toNat_ofNat,Nat.mod_eq_of_lt (show a*2 ^ i<2 ^ 64 by omega),Nat.mod_eq_of_lt (show b<2 ^ 64 by omega)];have:=Nat.shiftLeft_add_eq_or_of_lt (i:=i) (b:=b) hb a;rw[Nat.shiftLeft_eq]at this;rw[<-this,wrap64 ha]
theorem and63i {x:Nat}(hx:x<9223372036854775808):IntKind.wrap .i64 ((BitVec.ofInt (IntKind.bits .i64) (x:Int) &&& BitVec.ofInt (IntKind.bits .i64) 63).toNat:Int)=((x % 64:Nat):Int):=by
 rw[show IntKind.bits .i64=64 from rfl,show (63:Int)=((63:Nat):Int) from rfl,BitVec.ofInt_natCast,BitVec.ofInt_natCast,BitVec.toNat_and,BitVec.toNat_ofNat,BitVec.toNat_ofNat,Nat.mod_eq_of_lt (show x<2 ^ 64 by omega),show (63:Nat) % 2 ^ 64=2 ^ 6-1 by decide,Nat.and_two_pow_sub_one_eq_mod,wrap64 (by omega)]
theorem fdivN (c d:Nat):((c:Int).fdiv (d:Int))=((c / d:Nat):Int):=by
 rw[Int.fdiv_eq_ediv_of_nonneg _ (by omega)];rfl
theorem wru8 {n:Nat}(h:n<256):wr .u8 (n:Int)=n:=by rw[wr_eq];exact wrap8 h
theorem u8N {n:Nat}(h:n<256):((UInt8.ofNat n).toNat:Int)=n:=by
 rw[UInt8.toNat_ofNat',Nat.mod_eq_of_lt h]
theorem shrN {c k:Nat}(hk:k<=18):(c:Int).fdiv (2 ^ min k (IntKind.bits .i64))=((c / 2 ^ k:Nat):Int):=by
 rw[show min k (IntKind.bits .i64)=k from Nat.min_eq_left (by show k<=64;omega),show ((2:Int) ^ k)=((2 ^ k:Nat):Int) by push_cast;rfl,fdivN]
theorem tailE {c k:Nat}(hc:c<1114112)(hk:k<=12):wr .u8 (IntKind.wrap .i64 ((BitVec.ofInt (IntKind.bits .i64) 128 ||| BitVec.ofInt (IntKind.bits .i64) (IntKind.wrap .i64 ((BitVec.ofInt (IntKind.bits .i64) ((c:Int).fdiv (2 ^ min k (IntKind.bits .i64))) &&& BitVec.ofInt (IntKind.bits .i64) 63).toNat:Int))).toNat:Int))=((UInt8.ofNat (128+c / 2 ^ k % 64)).toNat:Int):=by
 have hq:c / 2 ^ k<=c:=Nat.div_le_self _ _;rw[shrN (by omega),and63i (by omega),show (128:Int)=((2*2 ^ 6:Nat):Int) from rfl,orN (by omega) (by omega),wru8 (by omega),u8N (by omega)]
theorem headE {c h i k:Nat}(hc:c / 2 ^ k<2 ^ i)(hk:k<=18)(hh:h*2 ^ i+c / 2 ^ k<256){H:Int}(hH:H=((h*2 ^ i:Nat):Int)):wr .u8 (IntKind.wrap .i64 ((BitVec.ofInt (IntKind.bits .i64) H ||| BitVec.ofInt (IntKind.bits .i64) ((c:Int).fdiv (2 ^ min k (IntKind.bits .i64)))).toNat:Int))=((UInt8.ofNat (h*2 ^ i+c / 2 ^ k)).toNat:Int):=by
 rw[shrN hk,hH,orN hc (by omega),wru8 hh,u8N hh]
section
variable {gt:GT}{C:CallT}
theorem sx_ldBs {d:Option Nat}{env:Env}{S:St}{a:DOpd}{id off sz:Nat}{g:Bool}{ty:TypeId}{cs:List AV}{v:AV}(hb:lk S.boxes id=some (some (ty,cs)))(ha:loc env a=some (.hp id off))(hm:(cut cs off sz).bind (mkv g)=some v) :
  stepO gt d env S (.ld g sz a)=.done (putV d v env) S:=by
 simp only[stepO,ha,ldL,ldC,hb];cases hc:cut cs off sz with
 | none=>rw[hc]at hm;cases hm
 | some c=>rw[hc]at hm;simp only[Option.bind_some]at hm;simp only[hm,SR.val]
theorem tail_wp {S:St}{id c k:Nat}{ty:TypeId}(hb:lk S.boxes id=some (some (ty,[.int .i64 c])))(hc:c<1114112)(hk:k<=12) :
  wpF gt C F200 [.int .i64 k,.ptr id 0] S λr S'=>r=.ret (.int .u8 (UInt8.ofNat (128+c / 2 ^ k % 64)).toNat)/\S'=S:=by
 refine⟨rfl,?_⟩;refine goW ?_;refine step_ruleO (sx_ldBs (v:=.int .i64 c) hb rfl rfl) (goW ?_);rw[show ((k:Int)).toNat=k from Int.toNat_natCast k,tailE hc hk];exact⟨_,rfl,rfl,rfl⟩
theorem appV_kp {S S2:St}{agg:Bool}{ty:TypeId}{es bytes:Nat}{x y v:AV}(hv:appV S agg ty es bytes x y=some (v,S2)):S2.mv=S.mv/\S2.dl=S.dl:=by
 unfold appV at hv;simp only[cond_eq_ite]at hv
 (repeat' split at hv)<;>first | (cases hv;exact⟨rfl,rfl⟩) | (cases hv)
theorem app_kp {d:Option Nat}{env env':Env}{S S':St}{agg:Bool}{ty:TypeId}{es bytes:Nat}{x y:DOpd}(h:stepO gt d env S (.app agg ty es bytes x y)=.done env' S'):S'.mv=S.mv/\S'.dl=S.dl:=by
 simp only[stepO]at h;split at h
 ·split at h
  ·rename_i v S2 hv;simp only[SR.done.injEq]at h;obtain⟨_,rfl⟩:=h;exact appV_kp hv
  ·cases h
 ·cases h
theorem r_appK {d:Option Nat}{env:Env}{S:St}{R:List Rs}{agg:Bool}{ty:TypeId}{es bytes:Nat}{x y:DOpd}{o:SI}{xs ys:List AV}{yv:AV}{gd:Option (Nat×Bool)}{K:Env->St->Prop}{Q:Ex->Env->St->Prop}(h:Hs S R)(i:Nat)(hi:R[i]? = some (.gr ty o xs))
  (hg:Gd env gd) (hx:opd env x=some (.sl es o xs)) (hy:opd env y=some yv) (hys:srcE S agg es yv=some ys)
  (hb:(xs.length+ys.length)*bytes<=140737488355328) (hb2:xs.length+ys.length<=140737488355328) (hb3:bytes<=1048576) (hes:0<es) (hok:(ys.flatMap AV.cells).all ok1=true)
  (k:∀o' S',Hs S' (R.set i (.gr ty o' (xs++ys)))->S'.mv=S.mv/\S'.dl=S.dl->K (putV d (.sl es o' (xs++ys)) env) S'):afterS C d env S K Q (stepI gt ⟨d,.app agg ty es bytes x y,gd⟩ env S):=by
 obtain⟨o',S',e,h'⟩:=hs_app (gt:=gt) (d:=d) h i hi hx hy hys hb hb2 hb3 hes hok;exact st_any hg e (k o' S' h' (app_kp e))
theorem r_appDK {l:Option Nat}{d:Option Nat}{env:Env}{S:St}{R:List Rs}{agg:Bool}{ty:TypeId}{es bytes:Nat}{x y:DOpd}{o:SI}{xs ys:List AV}{yv:AV}{gd:Option (Nat×Bool)}{K:Env->St->Prop}{Q:Ex->Env->St->Prop}(h:Hs S R)(i:Nat)(hi:R[i]? = some (.gr ty o xs))
  (hg:Gd env gd) (hx:opd env x=some (.sl es o xs)) (hy:opd env y=some yv) (hys:srcE S agg es yv=some ys)
  (hb:(xs.length+ys.length)*bytes<=140737488355328) (hb2:xs.length+ys.length<=140737488355328) (hb3:bytes<=1048576) (hes:0<es) (hok:(ys.flatMap AV.cells).all ok1=true)
  (k:∀o' S',Hs S' (R.set i (.gr ty o' (xs++ys)))->S'.mv=S.mv/\S'.dl=S.dl->K (putV d (.sl es o' (xs++ys)) env) S'):afterS C d env S K Q (stepD gt (⟨d,.app agg ty es bytes x y,gd⟩,l) env S):=by
 obtain⟨o',S',e,h'⟩:=hs_app (gt:=gt) (d:=d) h i hi hx hy hys hb hb2 hb3 hes hok;exact st_anyD hg rfl rfl e (k o' S' h' (app_kp e))
theorem putU_wp (hm:MonoC C){S:St}{R:List Rs}{i c:Nat}{o:SI}{xs:List AV}(hR:Hs S R)(hi:R[i]? = some (.gr 5 o xs))(hc:c<1114112)(hl:xs.length<1099511627776)
  (ht:∀(S:St) (id k:Nat) (ty:TypeId),k<=12->lk S.boxes id=some (some (ty,[.int .i64 c]))->C 200 [.int .i64 k,.ptr id 0] S λr S'=>r=.ret (.int .u8 (UInt8.ofNat (128+c / 2 ^ k % 64)).toNat)/\S'=S) :
  wpF gt C F175 [.sl 1 o xs,.int .i64 c] S λr S'=>∃o',r=.ret (.sl 1 o' (xs++ofBytes (encC c)))/\Hs S' (R.set i (.gr 5 o' (xs++ofBytes (encC c))))/\S'.mv=S.mv/\S'.dl=S.dl:=by
 have hil:i<R.length:=by
  rcases Nat.lt_or_ge i R.length with h | h
  ·exact h
  ·rw[List.getElem?_eq_none h]at hi;cases hi
 have hB:=hR.newBox 3 [.int .i64 c];have hbx:lk ((S.nb,some (3,[AV.int .i64 c]))::S.boxes) S.nb=some (some (3,[.int .i64 c])):=lk_same _ _ _;have hi2:(R++[Rs.bx S.nb 3 [.int .i64 c]])[i]? = some (.gr 5 o xs):=by rw[List.getElem?_append_left hil];exact hi
 have t0:=ht { S with nb:=S.nb+1,boxes:=(S.nb,some (3,[AV.int .i64 c]))::S.boxes } S.nb 0 3 (by omega) hbx;have t6:=ht { S with nb:=S.nb+1,boxes:=(S.nb,some (3,[AV.int .i64 c]))::S.boxes } S.nb 6 3 (by omega) hbx;have t12:=ht { S with nb:=S.nb+1,boxes:=(S.nb,some (3,[AV.int .i64 c]))::S.boxes } S.nb 12 3 (by omega) hbx;have fin:∀{o':SI} {S':St} {ys:List AV},ys=ofBytes (encC c)->Hs S' ((R++[Rs.bx S.nb 3 [.int .i64 c]]).set i (.gr 5 o' (xs++ys)))->(S'.mv=S.mv/\S'.dl=S.dl)->∃o2,Res.ret (.sl 1 o' (xs++ys))=.ret (.sl 1 o2 (xs++ofBytes (encC c)))/\Hs S' (R.set i (.gr 5 o2 (xs++ofBytes (encC c))))/\S'.mv=S.mv/\S'.dl=S.dl:=λ{o' S' ys} e h hk=>by
  subst e;rw[List.set_append_left _ _ hil]at h;exact⟨o',rfl,h.less (λx=>x) (λ_ _ _ _ e=>e) (λx hx=>by rw[List.getElem?_append_left hx]),hk⟩
 refine⟨rfl,?_⟩;refine goW ?_;refine step_ruleO (sx_ldBs (v:=.int .i64 c) hbx rfl rfl) (goW ?_);by_cases c1:(c:Int)<128
 ·rw[dT c1];refine goW ?_;refine step_ruleO (sx_ldBs (v:=.int .i64 c) hbx rfl rfl) (goW ?_);rw[wru8 (by omega)];obtain⟨hB2,hsrc⟩:=hB.bldT 5 1;refine r_appK hB2 i hi2 trivial rfl rfl (hsrc _ _ _) (by simp;omega) (by simp;omega) (by decide) (by decide) rfl ?_;intro o2 S2 hR2 hkp;refine goW ?_;exact⟨_,rfl,fin (by unfold encC;rw[if_pos (by omega)];simp[ofBytes,Nat.mod_eq_of_lt (show c<256 by omega)]) hR2 hkp⟩
 rw[dF c1];refine goW ?_;refine step_ruleO (sx_ldBs (v:=.int .i64 c) hbx rfl rfl) (goW ?_);by_cases c2:(c:Int)<2048
 ·rw[dT c2];refine goW ?_;refine step_ruleDO rfl rfl (sx_ldBs (v:=.int .i64 c) hbx rfl rfl) (goW ?_);rw[show Int.toNat 6=6 from rfl,headE (c:=c) (H:=192) (h:=3) (i:=6) (k:=6) (by omega) (by omega) (by omega) rfl];refine call_ruleD (by rfl) (hm _ _ _ _ _ t0 ?_);rintro r S2 ⟨rfl,hS⟩;subst hS;refine⟨stab_at rfl rfl trivial (sx_ldBs (v:=.int .i64 c) hbx rfl rfl) rfl beqA_int stab_nil,?_⟩;refine goW ?_;refine r_appDK hB i hi2 trivial rfl rfl rfl (by simp;omega) (by simp;omega) (by decide) (by decide) rfl ?_;intro o2 S2 hR2 hkp;refine goW ?_;exact⟨_,rfl,fin (by unfold encC;rw[if_neg (by omega),if_pos (by omega)];simp[ofBytes]) hR2 hkp⟩
 rw[dF c2];generalize hK:(65536:Int)=K;refine goW ?_;refine step_ruleO (sx_ldBs (v:=.int .i64 c) hbx rfl rfl) (goW ?_);by_cases c3:(c:Int)<K
 ·rw[dT c3];refine goW ?_;refine step_ruleDO rfl rfl (sx_ldBs (v:=.int .i64 c) hbx rfl rfl) (goW ?_);rw[show Int.toNat 12=12 from rfl,headE (c:=c) (H:=224) (h:=7) (i:=5) (k:=12) (by omega) (by omega) (by omega) rfl];refine call_ruleD (by rfl) (hm _ _ _ _ _ t6 ?_);rintro r S2 ⟨rfl,hS⟩;subst hS;refine⟨stab_at rfl rfl trivial (sx_ldBs (v:=.int .i64 c) hbx rfl rfl) rfl beqA_int stab_nil,?_⟩;refine goW ?_;refine call_ruleD (by rfl) (hm _ _ _ _ _ t0 ?_);rintro r S2 ⟨rfl,hS⟩;subst hS;refine⟨stab_at rfl rfl trivial (sx_ldBs (v:=.int .i64 c) hbx rfl rfl) rfl beqA_int stab_nil,?_⟩;refine goW ?_;refine r_appDK hB i hi2 trivial rfl rfl rfl (by simp;omega) (by simp;omega) (by decide) (by decide) rfl ?_;intro o2 S2 hR2 hkp;refine goW ?_;exact⟨_,rfl,fin (by unfold encC;rw[if_neg (by omega),if_neg (by omega),if_pos (by omega)];simp[ofBytes]) hR2 hkp⟩
 rw[dF c3];refine goW ?_;refine step_ruleDO rfl rfl (sx_ldBs (v:=.int .i64 c) hbx rfl rfl) (goW ?_);rw[show Int.toNat 18=18 from rfl,headE (c:=c) (H:=240) (h:=15) (i:=4) (k:=18) (by omega) (by omega) (by omega) rfl];refine call_ruleD (by rfl) (hm _ _ _ _ _ t12 ?_);rintro r S2 ⟨rfl,hS⟩;subst hS;refine⟨stab_at rfl rfl trivial (sx_ldBs (v:=.int .i64 c) hbx rfl rfl) rfl beqA_int stab_nil,?_⟩;refine goW ?_;refine call_ruleD (by rfl) (hm _ _ _ _ _ t6 ?_);rintro r S2 ⟨rfl,hS⟩;subst hS;refine⟨stab_at rfl rfl trivial (sx_ldBs (v:=.int .i64 c) hbx rfl rfl) rfl beqA_int stab_nil,?_⟩;refine goW ?_;refine call_ruleD (by rfl) (hm _ _ _ _ _ t0 ?_);rintro r S2 ⟨rfl,hS⟩;subst hS;refine⟨stab_at rfl rfl trivial (sx_ldBs (v:=.int .i64 c) hbx rfl rfl) rfl beqA_int stab_nil,?_⟩;refine goW ?_;refine r_appDK hB i hi2 trivial rfl rfl rfl (by simp;omega) (by simp;omega) (by decide) (by decide) rfl ?_;intro o2 S2 hR2 hkp;refine goW ?_;exact⟨_,rfl,fin (by unfold encC;rw[if_neg (by omega),if_neg (by omega),if_neg (by omega)];simp[ofBytes]) hR2 hkp⟩
end
end Go.Dn

namespace Go.Dn
def subC:DC->List Nat->DC
 | c,[]=>c
 |.seq a _,0::p=>subC a p
 |.seq _ b,_::p=>subC b p
 |.cnd _ a _,0::p=>subC a p
 |.cnd _ _ b,_::p=>subC b p
 |.blk _ c,_::p=>subC c p
 |.lop c,_::p=>subC c p
 | _,_=>.fail
end Go.Dn

namespace Go.Dn
open Go Go.Proofs.C1
set_option maxRecDepth 100000
attribute [local irreducible] afterS keepE
inductive QR where
 | ok (txt:List UInt8) (n:Nat)
 | bad (at_ why:Nat)
theorem escU_len {s:List UInt8}{p:Nat×Nat}(h:escU s=some p):1<=p.2/\p.2<=s.length/\p.1<1114112:=by
 cases s with
 | nil=>cases h
 | cons c r =>
  have hc:=u8_lt c;have e16:(((0+1)*16 ^ 4:Nat):Int)=65536:=by decide
  have b1:=numH_bd (s:=r) (k:=4) (n:=0);have b2:=numH_bd (s:=r.drop 6) (k:=4) (n:=0);rw[e16]at b1 b2;rw[lD]at b2;simp only[escU]at h;have one:∀{x:Nat},x<1114112->some (x,1)=some p->1<=p.2/\p.2<=(c::r).length/\p.1<1114112:=λhx e=>by
   cases e;exact⟨nR _,by simp,hx⟩
  split at h
  ·exact one (by omega) h
  split at h
  ·exact one (by omega) h
  split at h
  ·exact one (by omega) h
  split at h
  ·exact one (by omega) h
  split at h
  ·exact one (by omega) h
  split at h
  ·exact one (by omega) h
  split at h
  ·unfold pairB at h;split at h
   ·cases h
   split at h
   ·cases h;simp only[lC];omega
   split at h
   ·cases h
   split at h
   ·cases h
   ·cases h;simp only[lC];omega
  ·cases h
def quoL (rest:List UInt8)(i:Nat)(acc:List UInt8):QR :=
 match rest with
 | []=>.bad i 14
 | c::r=>if c.toNat=34 then .ok acc (i+1) else if c.toNat<32 then .bad i 13 else if c.toNat=92 then (match escU r with
  | none=>.bad i 11
  | some p=>quoL (r.drop p.2) (i+1+p.2) (acc++encC p.1)) else quoL r (i+1) (acc++[c])
termination_by rest.length
decreasing_by all_goals simp only[lD,lC];omega
def quoB:List UInt8->QR
 | []=>.bad 0 14
 | c::r=>if c.toNat=34 then quoL r 1 [] else .bad 0 13
theorem encC_len (c:Nat):1<=(encC c).length/\(encC c).length<=4:=by
 unfold encC;split
 ·simp
 ·split
  ·simp
  ·split<;>simp
section
variable {gt:GT}{C:CallT}
abbrev wrB (id at_ why:Nat):Rs:=.bx id 111 [.int .i64 at_,.int .i64 why]
theorem wrong_wp {S:St}{R:List Rs}{at_ why:Nat}(hR:Hs S R):wpF gt C F85 [.int .i64 at_,.int .i64 why] S λr S'=>∃id,r=.ret (.ptr id 0)/\Hs S' (R++[wrB id at_ why])/\S'.mv=S.mv/\S'.dl=S.dl:=by
 have hB:=hR.newBox 111 [.int .i64 at_,.int .i64 why];refine⟨rfl,?_⟩;refine goW ?_;exact⟨_,rfl,_,rfl,hB,rfl,rfl⟩
def QPost (q:QR)(R:List Rs)(S:St):Res->St->Prop:=λr S'=>(match q with
 |.ok t n=>r=.ret (.tup [.str t,.int .i64 n,.nilp])/\Hs S' R
 |.bad a w=>∃id,r=.ret (.tup [.str [],.int .i64 0,.ptr id 0])/\Hs S' (R++[wrB id a w]))/\S'.mv=S.mv/\S'.dl=S.dl
abbrev E_quo (s:List UInt8)(o:SI)(acc:List UInt8)(i:Int):Env:=[(0,.val (.str s)),(5,.val (.sl 1 o (ofBytes acc))),(6,.val (.int .i64 i))]
theorem quoted_wp (hm:MonoC C){S:St}{R:List Rs}{s:List UInt8}(hR:Hs S R)(hl:s.length<=16777216)(hesc:∀s:List UInt8,s.length<4611686018427387904->PF C 174 [.str s] (encEsc (escU s)))
  (hput:∀{S:St} {R:List Rs} {i c:Nat} {o:SI} {xs:List AV},Hs S R->R[i]? = some (.gr 5 o xs)->c<1114112->xs.length<1099511627776->C 175 [.sl 1 o xs,.int .i64 c] S λr S'=>∃o',r=.ret (.sl 1 o' (xs++ofBytes (encC c)))/\Hs S' (R.set i (.gr 5 o' (xs++ofBytes (encC c))))/\S'.mv=S.mv/\S'.dl=S.dl)
  (hwr:∀{S:St} {R:List Rs} (at_ why:Nat),Hs S R->C 85 [.int .i64 at_,.int .i64 why] S λr S'=>∃id,r=.ret (.ptr id 0)/\Hs S' (R++[wrB id at_ why])/\S'.mv=S.mv/\S'.dl=S.dl) :
  wpF gt C F139 [.str s] S (QPost (quoB s) R S):=by
 refine⟨rfl,?_⟩;have bad:∀{a w id:Nat} {S2:St},quoB s=.bad a w->Hs S2 (R++[wrB id a w])->S2.mv=S.mv->S2.dl=S.dl->QPost (quoB s) R S (.ret (.tup [.str [],.int .i64 0,.ptr id 0])) S2:=λh h1 h2 h3=>by
  rw[h];exact⟨⟨_,rfl,h1⟩,h2,h3⟩
 have less:∀{S2:St} {x:Rs},Hs S2 (R++[x])->Hs S2 R:=λh=>h.less (λx=>x) (λ_ _ _ _ e=>e) λx hx=>by rw[List.getElem?_append_left hx]
 by_cases s0:s=[]
 ·subst s0;refine goW ?_;refine call_rule (by rfl) (hm _ _ _ _ _ (hwr 0 14 hR) ?_);rintro r S2 ⟨id,rfl,h1,h2,h3⟩;refine goW ?_;exact⟨_,rfl,bad rfl h1 h2 h3⟩
 refine goW ?_;rw[beqB_false s0];refine goW ?_;have hpos:0<s.length:=List.length_pos_iff.2 s0;have hg0:s[0]? = some s[0]:=gE hpos;have hq:quoB s=if s[0].toNat=34 then quoL (s.drop 1) 1 [] else .bad 0 13:=by
  cases s with
  | nil=>exact absurd rfl s0
  | cons c r=>rfl
 generalize s[0]=c0 at hg0 hq;have hc0:=u8_lt c0;refine step_ruleO (sx_ixS (k:=0) rfl rfl hg0) (goW ?_);by_cases q0:(c0.toNat:Int)=34
 case neg =>
  rw[neI_true q0];rw[if_neg (by omega)]at hq;refine goW ?_;refine call_rule (by rfl) (hm _ _ _ _ _ (hwr 0 13 hR) ?_);rintro r S2 ⟨id,rfl,h1,h2,h3⟩;refine goW ?_;exact⟨_,rfl,bad hq h1 h2 h3⟩
 rw[neI_false q0];rw[if_pos (by omega)]at hq;refine goW ?_;refine loop_rule hm (α:=Nat) (λi env S'=>∃acc o,Hs S' (R++[.gr 5 o (ofBytes acc)])/\i<=s.length/\acc.length<=4*i/\quoB s=quoL (s.drop i) i acc/\(S'.mv=S.mv/\S'.dl=S.dl)/\env=E_quo s o acc i) (λi=>s.length-i) ?_ (a:=1) ⟨[],_,hR.addNil 5 true,hpos,by simp,hq,⟨rfl,rfl⟩,rfl⟩
 clear hq hR
 rintro i env S' ⟨acc,o,hR,hi,hal,hq,⟨k1,k2⟩,rfl⟩;have hlen:(ofBytes acc).length=acc.length:=by simp[ofBytes]
 have hgr:(R++[Rs.gr 5 o (ofBytes acc)])[R.length]? = some (.gr 5 o (ofBytes acc)):=by simp
 refine goW ?_;by_cases c:(i:Int)<s.length
 case neg =>
  rw[dF c];obtain rfl:i=s.length:=by omega
  rw[List.drop_length,quoL]at hq;refine goW ?_;refine call_rule (by rfl) (hm _ _ _ _ _ (hwr s.length 14 (less hR)) ?_);rintro r S2 ⟨id,rfl,h1,h2,h3⟩;refine goW ?_;exact⟨_,rfl,bad hq h1 (h2.trans k1) (h3.trans k2)⟩
 rw[dT c];have his:i<s.length:=by omega
 have hge:s[i]? = some s[i]:=gE his;rw[dC his,quoL]at hq;generalize s[i]=b at hge hq;have hb:=u8_lt b;refine goW ?_;refine step_ruleO (sx_ixS (k:=i) rfl rfl hge) (goW ?_);by_cases b1:(b.toNat:Int)=34
 ·rw[eqI_true b1];rw[if_pos (by omega)]at hq;refine goW ?_;refine step_ruleO (sx_cvBS rfl ((hR.ok R.length _ hgr).els false 1) (bytes_of acc)) (goW ?_);rw[wrNat (by omega)];refine⟨_,rfl,?_⟩;rw[hq];exact⟨⟨rfl,less hR⟩,k1,k2⟩
 rw[eqI_false b1];rw[if_neg (by omega)]at hq;refine goW ?_;by_cases b2:(b.toNat:Int)<32
 ·rw[dT b2];rw[if_pos (by omega)]at hq;refine goW ?_;refine call_rule (by rfl) (hm _ _ _ _ _ (hwr i 13 (less hR)) ?_);rintro r S2 ⟨id,rfl,h1,h2,h3⟩;refine goW ?_;exact⟨_,rfl,bad hq h1 (h2.trans k1) (h3.trans k2)⟩
 rw[dF b2];rw[if_neg (by omega)]at hq;refine goW ?_;by_cases b3:(b.toNat:Int)=92
 ·rw[eqI_true b3];rw[if_pos (by omega)]at hq;have hes:=hesc (s.drop (i+1)) (by rw[lD];omega);have hel:=@escU_len (s.drop (i+1));rw[lD]at hel;refine goW ?_;rw[wrNat (by omega)];refine step_ruleO (sx_slLo (l:=i+1) rfl rfl (by omega)) (goW ?_);refine call_pf hm (by rfl) hes ?_;cases he:escU (s.drop (i+1)) with
  | none =>
   rw[he]at hq;simp only[encEsc];refine goW ?_;refine call_rule (by rfl) (hm _ _ _ _ _ (hwr i 11 (less hR)) ?_);rintro r S2 ⟨id,rfl,h1,h2,h3⟩;refine goW ?_;exact⟨_,rfl,bad hq h1 (h2.trans k1) (h3.trans k2)⟩
  | some p =>
   obtain⟨ch,n⟩:=p;have hel:=hel he;rw[he]at hq;simp only at hel hq;simp only[encEsc];have hec:=encC_len ch;have hput:=hput hR (i:=R.length) (c:=ch) hgr hel.2.2 (by rw[hlen];omega);refine goW ?_;rw[eqI_false (show ¬(n:Int)=0 by omega)];refine goW ?_;refine call_rule (by rfl) (hm _ _ _ _ _ hput ?_);rintro r S2 ⟨o2,rfl,h1,h2,h3⟩;refine goW ?_;rw[wr64 (n:=(1:Int)+n) (by omega) (by omega),wr64 (n:=(i:Int)+(1+n)) (by omega) (by omega)];have e1:ofBytes acc++ofBytes (encC ch)=ofBytes (acc++encC ch):=by simp[ofBytes]
   rw[e1]at h1 ⊢;refine⟨i+1+n,⟨acc++encC ch,o2,by simpa using h1,by omega,by rw[lA];omega,?_,⟨h2.trans k1,h3.trans k2⟩,?_⟩,by omega⟩
   ·rw[hq,List.drop_drop]
   ·rw[show (i:Int)+(1+n)=((i+1+n:Nat):Int) by omega]
 rw[eqI_false b3];rw[if_neg (by omega)]at hq;refine goW ?_;obtain⟨hR2,hsrc⟩:=hR.bldT 5 1;refine r_appK hR2 R.length hgr trivial rfl rfl (hsrc _ _ _) (by rw[hlen];simp;omega) (by rw[hlen];simp;omega) (by decide) (by decide) rfl ?_;intro o2 S2 hR3 hk;have e1:ofBytes acc++(List.replicate 1 (AV.int .u8 0)).set 0 (AV.int .u8 b.toNat)=ofBytes (acc++[b]):=by simp[ofBytes]
 rw[e1]at hR3 ⊢;refine goW ?_;rw[wrNat (by omega)];exact⟨i+1,⟨acc++[b],o2,by simpa using hR3,by omega,by rw[lA];simp;omega,hq,⟨hk.1.trans k1,hk.2.trans k2⟩,rfl⟩,by omega⟩
end

section
variable {gt:GT}{C:CallT}
end

section
variable {gt:GT}{C:CallT}
end

section
variable {gt:GT}{C:CallT}
end
end Go.Dn

namespace Go.Dn
open Go Go.Proofs.C1
set_option maxRecDepth 100000
inductive PR where
 | ok (t:PT) (i n:Nat)
 | bad (i:Nat) (w:Int)
def rowE (p:UInt8->Bool)(s:List UInt8)(i:Nat):Nat:=i+((s.drop i).takeWhile p).length
theorem rowE_in {p:UInt8->Bool}{s:List UInt8}{i:Nat}{c:UInt8}(h:s[i]? = some c)(hc:p c=true):rowE p s i=rowE p s (i+1):=by
 obtain⟨hi,rfl⟩:=List.getElem?_eq_some_iff.1 h;unfold rowE;rw[dC hi,List.takeWhile_cons_of_pos hc,lC];omega
theorem rowE_out {p:UInt8->Bool}{s:List UInt8}{i:Nat}{c:UInt8}(h:s[i]? = some c)(hc:p c=false):rowE p s i=i:=by
 obtain⟨hi,rfl⟩:=List.getElem?_eq_some_iff.1 h;unfold rowE;rw[dC hi,List.takeWhile_cons_of_neg (by rw[hc];exact Bool.false_ne_true)];rfl
theorem rowE_end {p:UInt8->Bool}{s:List UInt8}{i:Nat}(h:s.length<=i):rowE p s i=i:=by
 unfold rowE;rw[List.drop_eq_nil_of_le h];rfl
theorem rowE_ge {p:UInt8->Bool}{s:List UInt8}{i:Nat}:i<=rowE p s i:=Nat.le_add_right _ _
theorem takeWhile_le (p:UInt8->Bool):∀l:List UInt8,(l.takeWhile p).length<=l.length
 | []=>nR _
 | a::l=>by
  rw[List.takeWhile_cons];split
  ·rw[lC,lC];have:=takeWhile_le p l;omega
  ·exact Nat.zero_le _
theorem rowE_le {p:UInt8->Bool}{s:List UInt8}{i:Nat}(h:i<=s.length):rowE p s i<=s.length:=by
 have:=takeWhile_le p (s.drop i);rw[lD]at this;unfold rowE;omega
def digC (c:UInt8):Bool:=Nat.ble 48 c.toNat && Nat.ble c.toNat 57
def letC (c:UInt8):Bool:=(Nat.ble 97 c.toNat && Nat.ble c.toNat 122) || (Nat.ble 65 c.toNat && Nat.ble c.toNat 90)
def blaC (c:UInt8):Bool:=Nat.beq c.toNat 9 || Nat.beq c.toNat 10 || Nat.beq c.toNat 13 || Nat.beq c.toNat 32
def numC (c:UInt8):Bool:=digC c || letC c || Nat.beq c.toNat 43 || Nat.beq c.toNat 45 || Nat.beq c.toNat 46
def timC (c:UInt8):Bool:=numC c || Nat.beq c.toNat 58
def midP (s:List UInt8)(i j:Nat):List UInt8:=(s.drop i).take (j-i)
def isC (s:List UInt8)(i c:Nat):Bool:=match s[i]? with | some b=>Nat.beq b.toNat c | none=>false
def errP (s:List UInt8)(i:Nat):PR:=if i<s.length then .bad i 13 else .bad s.length 14
def nodP (deep i n:Nat)(x:PR):PR:=if 64<deep then .bad i 4 else if 4096<n+1 then .bad i 3 else x
abbrev w4null:List UInt8:=[110,117,108,108]
abbrev w4true:List UInt8:=[116,114,117,101]
abbrev w5false:List UInt8:=[102,97,108,115,101]
def scaP (s:List UInt8)(deep i n:Nat)(c:UInt8):PR :=
 if (digC c || Nat.beq c.toNat 45)=true then
  if (normB (midP s i (rowE numC s i))).2=0 then nodP deep i n (.ok (.mk 3 (normB (midP s i (rowE numC s i))).1 [] []) (rowE numC s i) (n+1))
  else .bad i (normB (midP s i (rowE numC s i))).2
 else if letC c=true then
  if midP s i (rowE letC s i)=w4null then nodP deep i n (.ok (.mk 1 [] [] []) (rowE letC s i) (n+1))
  else if midP s i (rowE letC s i)=w4true\/midP s i (rowE letC s i)=w5false then nodP deep i n (.ok (.mk 2 (midP s i (rowE letC s i)) [] []) (rowE letC s i) (n+1))
  else .bad i 13
 else .bad i 13
mutual
def treeP (s:List UInt8):Nat->Nat->Nat->Nat->PR
 | 0,_,_,_=>.bad 0 99
 | f+1,deep,i,n =>
  match s[i]? with
  | none=>.bad s.length 14
  | some c =>
   if c.toNat=34 then nodP deep i n (match quoB (s.drop i) with |.ok t k=>.ok (.mk 4 t [] []) (i+k) (n+1) |.bad a w=>.bad (i+a) w)
   else if c.toNat=91 then nodP deep i n (if isC s (rowE blaC s (i+1)) 93=true then .ok (.mk 6 [] [] []) (rowE blaC s (i+1)+1) (n+1) else listP s f deep (i+1) (n+1) [])
   else if c.toNat=123 then nodP deep i n (if isC s (rowE blaC s (i+1)) 125=true then .ok (.mk 7 [] [] []) (rowE blaC s (i+1)+1) (n+1) else recP s f deep (i+1) (n+1) [] [])
   else if c.toNat=64 then
    if timeB (midP s (i+1) (rowE timC s (i+1)))=true then nodP deep i n (.ok (.mk 5 (midP s (i+1) (rowE timC s (i+1))) [] []) (rowE timC s (i+1)) (n+1)) else .bad i 20
   else scaP s deep i n c
def listP (s:List UInt8):Nat->Nat->Nat->Nat->List PT->PR
 | 0,_,_,_,_=>.bad 0 99
 | f+1,deep,i,n,acc =>
  match treeP s f (deep+1) (rowE blaC s i) n with
  |.bad a w=>.bad a w
  |.ok t e m =>
   if isC s (rowE blaC s e) 44=true then listP s f deep (rowE blaC s e+1) m (acc++[t])
   else if isC s (rowE blaC s e) 93=true then .ok (.mk 6 [] [] (acc++[t])) (rowE blaC s e+1) m
   else errP s (rowE blaC s e)
def recP (s:List UInt8):Nat->Nat->Nat->Nat->List (List UInt8)->List PT->PR
 | 0,_,_,_,_,_=>.bad 0 99
 | f+1,deep,i,n,keys,kids =>
  if isC s (rowE blaC s i) 34=true then
   match quoB (s.drop (rowE blaC s i)) with
   |.bad a w=>.bad (rowE blaC s i+a) w
   |.ok k m =>
    if k∈keys then .bad (rowE blaC s i) 15
    else if isC s (rowE blaC s (rowE blaC s i+m)) 58=true then
     match treeP s f (deep+1) (rowE blaC s (rowE blaC s (rowE blaC s i+m)+1)) n with
     |.bad a w=>.bad a w
     |.ok t e n' =>
      if isC s (rowE blaC s e) 44=true then recP s f deep (rowE blaC s e+1) n' (keys++[k]) (kids++[t])
      else if isC s (rowE blaC s e) 125=true then .ok (.mk 7 [] (keys++[k]) (kids++[t])) (rowE blaC s e+1) n'
      else errP s (rowE blaC s e)
    else errP s (rowE blaC s (rowE blaC s i+m))
  else errP s (rowE blaC s i)
end
theorem isC_lt {s:List UInt8}{i c:Nat}(h:isC s i c=true):i<s.length:=by
 unfold isC at h;split at h
 ·rename_i b hb;exact(List.getElem?_eq_some_iff.1 hb).1
 ·cases h
theorem isC_some {s:List UInt8}{i c:Nat}(h:isC s i c=true):∃b,s[i]? = some b/\b.toNat=c:=by
 unfold isC at h;split at h
 ·rename_i b hb;exact⟨b,hb,bE h⟩
 ·cases h

section
variable {gt:GT}{C:CallT}
theorem pan_rule {i:DI}{env:Env}{S:St}{K:Env->St->Prop}{Q:Ex->Env->St->Prop}{v:AV}(h:stepI gt i env S=.pan v)(k:Q (.pan v) env S):afterS C i.dst env S K Q (stepI gt i env S):=by
 rw[h];exact k
theorem step_ruleDG {d:Option Nat}{op:DOp}{g:Nat}{w:Bool}{l:Option Nat}{env env':Env}{S S':St}{K:Env->St->Prop}{Q:Ex->Env->St->Prop}(hg:lk env g=some (.val (.bool w)))(h0:isLoc op=false)(h1:conform l env op=true)(h:stepO gt d env S op=.done env' S')(k:K env' S'):afterS C d env S K Q (stepD gt (⟨d,op,some (g,w)⟩,l) env S):=by
 have:stepD gt (⟨d,op,some (g,w)⟩,l) env S=stepO gt d env S op:=by simp only[stepD,stepDO,hg,h0,h1,beq_self_eq_true,cond_false,cond_true]
 rw[this,h];exact k
end
attribute [local irreducible] afterS keepE
abbrev plB (pid:Nat)(s:List UInt8)(i n:Nat):Rs:=.bx pid 88 [.str s,.int .i64 i,.int .i64 n]
def Kp (S' S:St):Prop:=S'.mv=S.mv/\S'.dl=S.dl
theorem Kp.refl (S:St):Kp S S:=⟨rfl,rfl⟩
theorem Kp.trans {S S' S'':St}(h:Kp S'' S')(k:Kp S' S):Kp S'' S:=⟨h.1.trans k.1,h.2.trans k.2⟩
section
variable {gt:GT}{C:CallT}
theorem sx_plS {d:Option Nat}{env:Env}{S:St}{R:List Rs}{pid i n:Nat}{s:List UInt8}{a:DOpd}(h:Hs S (plB pid s i n::R))(ha:loc env a=some (.hp pid 0)):stepO gt d env S (.ld false 1 a)=.done (putV d (.str s) env) S:=sx_ldBs (h.ok 0 _ rfl).2 ha rfl
theorem sx_plI {d:Option Nat}{env:Env}{S:St}{R:List Rs}{pid i n:Nat}{s:List UInt8}{a:DOpd}(h:Hs S (plB pid s i n::R))(ha:loc env a=some (.hp pid 1)):stepO gt d env S (.ld false 1 a)=.done (putV d (.int .i64 i) env) S:=sx_ldBs (h.ok 0 _ rfl).2 ha rfl
theorem sx_plN {d:Option Nat}{env:Env}{S:St}{R:List Rs}{pid i n:Nat}{s:List UInt8}{a:DOpd}(h:Hs S (plB pid s i n::R))(ha:loc env a=some (.hp pid 2)):stepO gt d env S (.ld false 1 a)=.done (putV d (.int .i64 n) env) S:=sx_ldBs (h.ok 0 _ rfl).2 ha rfl
theorem st_plI {d:Option Nat}{env:Env}{S:St}{R:List Rs}{pid i n j:Nat}{s:List UInt8}{a x:DOpd}(h:Hs S (plB pid s i n::R))(ha:loc env a=some (.hp pid 1))(hx:opd env x=some (.int .i64 j)) :
  ∃S',stepO gt d env S (.st 1 a x)=.done (putV d .undef env) S'/\Hs S' (plB pid s j n::R)/\Kp S' S:=by
 refine⟨_,?_,h.boxTo (i:=0) rfl [.str s,.int .i64 j,.int .i64 n],rfl,rfl⟩;simp only[stepO,ha,hx,AV.cells,stL,(h.ok 0 _ rfl).2,List.all_cons,List.all_nil,ok1];rfl
theorem st_plN {d:Option Nat}{env:Env}{S:St}{R:List Rs}{pid i n j:Nat}{s:List UInt8}{a x:DOpd}(h:Hs S (plB pid s i n::R))(ha:loc env a=some (.hp pid 2))(hx:opd env x=some (.int .i64 j)) :
  ∃S',stepO gt d env S (.st 1 a x)=.done (putV d .undef env) S'/\Hs S' (plB pid s i j::R)/\Kp S' S:=by
 refine⟨_,?_,h.boxTo (i:=0) rfl [.str s,.int .i64 i,.int .i64 j],rfl,rfl⟩;simp only[stepO,ha,hx,AV.cells,stL,(h.ok 0 _ rfl).2,List.all_cons,List.all_nil,ok1];rfl
theorem r_plI {d:Option Nat}{env:Env}{S:St}{K:Env->St->Prop}{Q:Ex->Env->St->Prop}{R:List Rs}{pid i n j:Nat}{s:List UInt8}{a x:DOpd}(h:Hs S (plB pid s i n::R))(ha:loc env a=some (.hp pid 1))(hx:opd env x=some (.int .i64 j))
  (k:∀S',Hs S' (plB pid s j n::R)->Kp S' S->K (putV d .undef env) S'):afterS C d env S K Q (stepI gt ⟨d,.st 1 a x,none⟩ env S):=by
 obtain⟨S',e,h1,h2⟩:=st_plI (gt:=gt) (d:=d) h ha hx;exact step_ruleO e (k S' h1 h2)
theorem r_plN {d:Option Nat}{env:Env}{S:St}{K:Env->St->Prop}{Q:Ex->Env->St->Prop}{R:List Rs}{pid i n j:Nat}{s:List UInt8}{a x:DOpd}(h:Hs S (plB pid s i n::R))(ha:loc env a=some (.hp pid 2))(hx:opd env x=some (.int .i64 j))
  (k:∀S',Hs S' (plB pid s i j::R)->Kp S' S->K (putV d .undef env) S'):afterS C d env S K Q (stepI gt ⟨d,.st 1 a x,none⟩ env S):=by
 obtain⟨S',e,h1,h2⟩:=st_plN (gt:=gt) (d:=d) h ha hx;exact step_ruleO e (k S' h1 h2)
theorem is_wp {S:St}{R:List Rs}{pid i n c:Nat}{s:List UInt8}(h:Hs S (plB pid s i n::R)):wpF gt C F90 [.ptr pid 0,.int .u8 c] S λr S'=>r=.ret (.bool (isC s i c))/\S'=S:=by
 refine⟨rfl,?_⟩;refine goW ?_;refine step_ruleDO rfl rfl (sx_plI h rfl) (goW ?_);refine step_ruleDO rfl rfl (sx_plS h rfl) (goW ?_);by_cases hi:i<s.length
 case neg =>
  rw[dF (show ¬(i:Int)<s.length by omega)];refine goW ?_;refine⟨_,rfl,?_⟩;have:isC s i c=false:=by unfold isC;rw[List.getElem?_eq_none (by omega)]
  rw[this];exact⟨rfl,rfl⟩
 rw[dT (show (i:Int)<s.length by omega)];refine goW ?_;refine step_ruleDG rfl rfl rfl (sx_plS h rfl) (goW ?_);refine step_ruleDG rfl rfl rfl (sx_plI h rfl) (goW ?_);refine step_ruleDG rfl rfl rfl (sx_ixS (k:=i) rfl rfl (gE hi)) (goW ?_);refine⟨_,rfl,?_⟩;have e:isC s i c=(((s[i].toNat:Nat):Int) == (c:Int)):=by
  unfold isC;rw[gE hi];show Nat.beq s[i].toNat c=_;by_cases q:s[i].toNat=c
  ·rw[q,Nat.beq_refl,beq_self_eq_true]
  ·rw[beq_eq_false_iff_ne.2 (show ((s[i].toNat:Nat):Int)≠(c:Int) by omega)];cases hb:Nat.beq s[i].toNat c with
   | true=>exact absurd (bE hb) q
   | false=>rfl
 rw[e];exact⟨rfl,rfl⟩
theorem fail_wp (hm:MonoC C){S:St}{R:List Rs}{at_ why:Nat}(h:Hs S R)
  (hwr:∀{S:St} {R:List Rs} (at_ why:Nat),Hs S R->C 85 [.int .i64 at_,.int .i64 why] S λr S'=>∃id,r=.ret (.ptr id 0)/\Hs S' (R++[wrB id at_ why])/\S'.mv=S.mv/\S'.dl=S.dl) :
  wpF gt C F97 [.int .i64 at_,.int .i64 why] S λr S'=>∃id,r=.pan (.ifc 105 (.ptr id 0))/\Hs S' (R++[wrB id at_ why])/\Kp S' S:=by
 refine⟨rfl,?_⟩;refine goW ?_;refine call_rule (by rfl) (hm _ _ _ _ _ (hwr at_ why h) ?_);rintro r S2 ⟨id,rfl,h1,h2⟩;refine goW ?_;refine pan_rule rfl ?_;exact⟨_,rfl,h1,h2⟩
def PanP (R:List Rs)(at_ why:Nat)(S:St):Res->St->Prop:=λr S'=>∃id,r=.pan (.ifc 105 (.ptr id 0))/\Hs S' (R++[wrB id at_ why])/\Kp S' S
def errA (s:List UInt8)(i:Nat):Nat:=if i<s.length then i else s.length
def errW (s:List UInt8)(i:Nat):Nat:=if i<s.length then 13 else 14
theorem badP_wp (hm:MonoC C){S:St}{R:List Rs}{pid i n:Nat}{s:List UInt8}(h:Hs S (plB pid s i n::R))
  (hf:∀{S:St} {R:List Rs} (at_ why:Nat),Hs S R->C 97 [.int .i64 at_,.int .i64 why] S (PanP R at_ why S)) :
  wpF gt C F55 [.ptr pid 0] S (PanP (plB pid s i n::R) (errA s i) (errW s i) S):=by
 refine⟨rfl,?_⟩;refine goW ?_;refine step_ruleDO rfl rfl (sx_plI h rfl) (goW ?_);refine step_ruleDO rfl rfl (sx_plS h rfl) (goW ?_);by_cases hi:i<s.length
 case neg =>
  rw[dT (show (s.length:Int)<=i by omega)];refine goW ?_;refine step_ruleO (sx_plS h rfl) (goW ?_);refine call_rule (by rfl) (hm _ _ _ _ _ (hf s.length 14 h) ?_);rintro r S2 ⟨id,rfl,h1,h2⟩;unfold errA errW;rw[if_neg hi,if_neg hi];exact⟨_,rfl,h1,h2⟩
 rw[dF (show ¬(s.length:Int)<=i by omega)];refine goW ?_;refine step_ruleO (sx_plI h rfl) (goW ?_);refine call_rule (by rfl) (hm _ _ _ _ _ (hf i 13 h) ?_);rintro r S2 ⟨id,rfl,h1,h2⟩;unfold errA errW;rw[if_pos hi,if_pos hi];exact⟨_,rfl,h1,h2⟩
theorem must_wp (hm:MonoC C){S:St}{R:List Rs}{pid i n c:Nat}{s:List UInt8}(h:Hs S (plB pid s i n::R))(hl:s.length<=16777216)
  (his:∀{S:St} {R:List Rs} {i:Nat},Hs S (plB pid s i n::R)->C 90 [.ptr pid 0,.int .u8 c] S λr S'=>r=.ret (.bool (isC s i c))/\S'=S)
  (hb:∀{S:St} {R:List Rs} {i:Nat},Hs S (plB pid s i n::R)->C 55 [.ptr pid 0] S (PanP (plB pid s i n::R) (errA s i) (errW s i) S)) :
  wpF gt C F140 [.ptr pid 0,.int .u8 c] S λr S'=>if isC s i c=true then r=.ret (.tup [])/\Hs S' (plB pid s (i+1) n::R)/\Kp S' S else PanP (plB pid s i n::R) (errA s i) (errW s i) S r S':=by
 refine⟨rfl,?_⟩;refine goW ?_;refine call_rule (by rfl) (hm _ _ _ _ _ (his h) ?_);rintro r S2 ⟨rfl,rfl⟩;refine goW ?_;cases hc:isC s i c with
 | false =>
  refine goW ?_;refine call_rule (by rfl) (hm _ _ _ _ _ (hb h) ?_);rintro r S2 ⟨id,rfl,h1,h2⟩;exact⟨_,rfl,h1,h2⟩
 | true =>
  have:=isC_lt hc;refine goW ?_;refine step_ruleO (sx_plI h rfl) (goW ?_);rw[wr64 (by omega) (by omega),show (i:Int)+1=((i+1:Nat):Int) by omega];refine r_plI h rfl rfl λS3 h1 h2=>?_;refine goW ?_;exact⟨_,rfl,rfl,h1,h2⟩
end
end Go.Dn

namespace Go.Dn
open Go Go.Proofs.C1
set_option maxRecDepth 100000
attribute [local irreducible] afterS keepE
theorem ble_dec (a b:Nat):Nat.ble a b=decide ((a:Int)<=b):=by
 by_cases h:a<=b
 ·rw[Nat.ble_eq_true_of_le h,dT (by omega)]
 ·rw[dF (by omega)];cases hb:Nat.ble a b with
  | true=>exact absurd (bL hb) h
  | false=>rfl
theorem beq_dec (a b:Nat):Nat.beq a b=((a:Int) == b):=by
 by_cases h:a=b
 ·rw[h,Nat.beq_refl,beq_self_eq_true]
 ·rw[beq_eq_false_iff_ne.2 (show (a:Int)≠b by omega)];cases hb:Nat.beq a b with
  | true=>exact absurd (bE hb) h
  | false=>rfl
section
variable {gt:GT}{C:CallT}
theorem digT_wp {b:UInt8}:wpF gt C F141 [.int .u8 b.toNat] St.init (Ret (.bool (digC b))):=by
 refine⟨rfl,?_⟩;rw[show digC b=(decide ((48:Int)<=b.toNat) && decide ((b.toNat:Int)<=57)) by unfold digC;rw[ble_dec,ble_dec];rfl];refine goW ?_;by_cases c:(48:Int)<=b.toNat
 ·rw[dT c];refine goW ?_;refine⟨_,rfl,?_⟩;simp only[Bool.true_and,Bool.false_and,Bool.true_or,Bool.false_or];exact Ret.sta trivial
 ·rw[dF c];refine goW ?_;refine⟨_,rfl,?_⟩;simp only[Bool.true_and,Bool.false_and,Bool.true_or,Bool.false_or];exact Ret.sta trivial
theorem letT_wp {b:UInt8}:wpF gt C F142 [.int .u8 b.toNat] St.init (Ret (.bool (letC b))):=by
 refine⟨rfl,?_⟩;rw[show letC b=(decide ((97:Int)<=b.toNat) && decide ((b.toNat:Int)<=122) || decide ((65:Int)<=b.toNat) && decide ((b.toNat:Int)<=90)) by unfold letC;rw[ble_dec,ble_dec,ble_dec,ble_dec];rfl];refine goW ?_;by_cases c:(97:Int)<=b.toNat
 ·rw[dT c];refine goW ?_;by_cases c2:(b.toNat:Int)<=122
  ·rw[dT c2];refine goW ?_;refine⟨_,rfl,?_⟩;simp only[Bool.true_and,Bool.false_and,Bool.true_or,Bool.false_or];exact Ret.sta trivial
  ·rw[dF c2];refine goW ?_;by_cases c3:(65:Int)<=b.toNat
   ·rw[dT c3];refine goW ?_;refine⟨_,rfl,?_⟩;simp only[Bool.true_and,Bool.false_and,Bool.true_or,Bool.false_or];exact Ret.sta trivial
   ·rw[dF c3];refine goW ?_;refine⟨_,rfl,?_⟩;simp only[Bool.true_and,Bool.false_and,Bool.true_or,Bool.false_or];exact Ret.sta trivial
 ·rw[dF c];refine goW ?_;by_cases c3:(65:Int)<=b.toNat
  ·rw[dT c3];refine goW ?_;refine⟨_,rfl,?_⟩;simp only[Bool.true_and,Bool.false_and,Bool.true_or,Bool.false_or];exact Ret.sta trivial
  ·rw[dF c3];refine goW ?_;refine⟨_,rfl,?_⟩;simp only[Bool.true_and,Bool.false_and,Bool.true_or,Bool.false_or];exact Ret.sta trivial
theorem blaT_wp {b:UInt8}:wpF gt C F89 [.int .u8 b.toNat] St.init (Ret (.bool (blaC b))):=by
 refine⟨rfl,?_⟩;unfold blaC;rw[beq_dec,beq_dec,beq_dec,beq_dec];refine goW ?_;cases c1:((b.toNat:Int) == ((9:Nat):Int)) with
 | true =>
  refine goW ?_;exact⟨_,rfl,Ret.sta trivial⟩
 | false =>
  refine goW ?_;cases c2:((b.toNat:Int) == ((10:Nat):Int)) with
  | true =>
   refine goW ?_;exact⟨_,rfl,Ret.sta trivial⟩
  | false =>
   refine goW ?_;cases c3:((b.toNat:Int) == ((13:Nat):Int)) with
   | true =>
    refine goW ?_;exact⟨_,rfl,Ret.sta trivial⟩
   | false =>
    refine goW ?_;exact⟨_,rfl,Ret.sta trivial⟩
theorem inNum_wp (hm:MonoC C){b:UInt8}(hd:∀b:UInt8,PF C 141 [.int .u8 b.toNat] (.bool (digC b)))(hl:∀b:UInt8,PF C 142 [.int .u8 b.toNat] (.bool (letC b))):wpF gt C F96 [.int .u8 b.toNat] St.init (Ret (.bool (numC b))):=by
 refine⟨rfl,?_⟩;unfold numC;rw[beq_dec,beq_dec,beq_dec];refine goW ?_;refine call_pf hm (by rfl) (hd b) ?_;cases c0:digC b with
 | true =>
  refine goW ?_;exact⟨_,rfl,Ret.sta trivial⟩
 | false =>
  refine goW ?_;refine call_pf hm (by rfl) (hl b) ?_;cases c1:letC b with
  | true =>
   refine goW ?_;exact⟨_,rfl,Ret.sta trivial⟩
  | false =>
   refine goW ?_;cases c2:((b.toNat:Int) == ((43:Nat):Int)) with
   | true =>
    refine goW ?_;exact⟨_,rfl,Ret.sta trivial⟩
   | false =>
    refine goW ?_;cases c3:((b.toNat:Int) == ((45:Nat):Int)) with
    | true =>
     refine goW ?_;exact⟨_,rfl,Ret.sta trivial⟩
    | false =>
     refine goW ?_;exact⟨_,rfl,Ret.sta trivial⟩
theorem timT_wp (hm:MonoC C){b:UInt8}(hn:∀b:UInt8,PF C 96 [.int .u8 b.toNat] (.bool (numC b))):wpF gt C F95 [.int .u8 b.toNat] St.init (Ret (.bool (timC b))):=by
 refine⟨rfl,?_⟩;unfold timC;rw[beq_dec];refine goW ?_;refine call_pf hm (by rfl) (hn b) ?_;cases c0:numC b with
 | true =>
  refine goW ?_;exact⟨_,rfl,Ret.sta trivial⟩
 | false =>
  refine goW ?_;exact⟨_,rfl,Ret.sta trivial⟩
def RowP (p:UInt8->Bool)(pid:Nat)(s:List UInt8)(i n:Nat)(R:List Rs)(S:St):Res->St->Prop:=λr S'=>r=.ret (.str (midP s i (rowE p s i)))/\Hs S' (plB pid s (rowE p s i) n::R)/\Kp S' S
abbrev E_row (pid f i:Nat):Env:=[(0,.val (.ptr pid 0)),(1,.val (.fn f [] [])),(5,.val (.int .i64 i))]
theorem rowT_wp (hm:MonoC C){S:St}{R:List Rs}{pid i n f:Nat}{s:List UInt8}{p:UInt8->Bool}(h:Hs S (plB pid s i n::R))(hi:i<=s.length)(hl:s.length<=16777216)
  (hp:∀b:UInt8,PF C f [.int .u8 b.toNat] (.bool (p b))) :
  wpF gt C F88 [.ptr pid 0,.fn f [] []] S (RowP p pid s i n R S):=by
 refine⟨rfl,?_⟩;refine goW ?_;refine step_ruleO (sx_plI h rfl) (goW ?_);refine loop_rule hm (α:=Nat) (λj env S'=>Hs S' (plB pid s j n::R)/\Kp S' S/\i<=j/\j<=s.length/\rowE p s j=rowE p s i/\env=E_row pid f i) (λj=>s.length-j) ?_ (a:=i) ⟨h,Kp.refl S,nR i,hi,rfl,rfl⟩;rintro j env S1 ⟨h1,k1,hij,hj,he,rfl⟩;have post:∀{S2:St},Hs S2 (plB pid s j n::R)->Kp S2 S->rowE p s j=j->RowP p pid s i n R S (.ret (.str (midP s i j))) S2:=λh2 k2 e2=>by
  have e3:rowE p s i=j:=by rw[<-he,e2]
  unfold RowP;rw[e3];exact⟨rfl,h2,k2⟩
 refine goW ?_;refine step_ruleDO rfl rfl (sx_plI h1 rfl) (goW ?_);refine step_ruleDO rfl rfl (sx_plS h1 rfl) (goW ?_);by_cases c:j<s.length
 case neg =>
  rw[dF (show ¬(j:Int)<s.length by omega)];refine goW ?_;refine step_ruleDO rfl rfl (sx_plS h1 rfl) (goW ?_);refine step_ruleDO rfl rfl (sx_plI h1 rfl) (goW ?_);refine step_ruleDO rfl rfl (sx_slLH (l:=i) (h:=j) rfl rfl rfl hij hj) (goW ?_);exact⟨_,rfl,post h1 k1 (rowE_end (by omega))⟩
 rw[dT (show (j:Int)<s.length by omega)];refine goW ?_;refine step_ruleDG rfl rfl rfl (sx_plS h1 rfl) (goW ?_);refine step_ruleDG rfl rfl rfl (sx_plI h1 rfl) (goW ?_);refine step_ruleDG rfl rfl rfl (sx_ixS (k:=j) rfl rfl (gE c)) (goW ?_);refine call_pfD hm (by rfl) (hp s[j]) ?_;cases hc:p s[j] with
 | false =>
  refine goW ?_;refine step_ruleDO rfl rfl (sx_plS h1 rfl) (goW ?_);refine step_ruleDO rfl rfl (sx_plI h1 rfl) (goW ?_);refine step_ruleDO rfl rfl (sx_slLH (l:=i) (h:=j) rfl rfl rfl hij hj) (goW ?_);exact⟨_,rfl,post h1 k1 (rowE_out (gE c) hc)⟩
 | true =>
  refine goW ?_;refine step_ruleO (sx_plI h1 rfl) (goW ?_);rw[wr64 (by omega) (by omega),show (j:Int)+1=((j+1:Nat):Int) by omega];refine r_plI h1 rfl rfl λS3 h3 k3=>?_;refine goW ?_;exact⟨j+1,⟨h3,k3.trans k1,by omega,by omega,by rw[<-he,rowE_in (gE c) hc],rfl⟩,by omega⟩
end

section
variable {gt:GT}{C:CallT}
theorem blanks_wp (hm:MonoC C){S:St}{R:List Rs}{pid i n:Nat}{s:List UInt8}(h:Hs S (plB pid s i n::R))(hi:i<=s.length)
  (hr:∀{S:St} {R:List Rs} {i:Nat},Hs S (plB pid s i n::R)->i<=s.length->C 88 [.ptr pid 0,.fn 89 [] []] S (RowP blaC pid s i n R S)) :
  wpF gt C F53 [.agg [.ptr pid 0]] S λr S'=>r=.ret (.tup [])/\Hs S' (plB pid s (rowE blaC s i) n::R)/\Kp S' S:=by
 refine⟨rfl,?_⟩;refine goW ?_;refine call_rule (by rfl) (hm _ _ _ _ _ (hr h hi) ?_);rintro r S2 ⟨rfl,h1,h2⟩;refine goW ?_;exact⟨_,rfl,rfl,h1,h2⟩
def PanT (pid:Nat)(s:List UInt8)(R:List Rs)(at_ why:Nat)(S:St):Res->St->Prop:=λr S'=>∃id i n:Nat,r=.pan (.ifc 105 (.ptr id 0))/\Hs S' (plB pid s i n::(R++[wrB id at_ why]))/\Kp S' S
theorem PanP.toT {pid i n:Nat}{s:List UInt8}{R:List Rs}{at_ why:Nat}{S S2:St}{r:Res}{S':St}(h:PanP (plB pid s i n::R) at_ why S2 r S')(k:Kp S2 S):PanT pid s R at_ why S r S':=by
 obtain⟨id,h1,h2,h3⟩:=h;exact⟨id,i,n,h1,h2,h3.trans k⟩
theorem node_wp (hm:MonoC C){S:St}{R:List Rs}{pid i n at_ deep:Nat}{s:List UInt8}(h:Hs S (plB pid s i n::R))(hn:n<=4096)
  (hf:∀{S:St} {R:List Rs} (at_ why:Nat),Hs S R->C 97 [.int .i64 at_,.int .i64 why] S (PanP R at_ why S)) :
  wpF gt C F91 [.ptr pid 0,.int .i64 at_,.int .i64 deep,.int .i64 1] S λr S'=>if 64<deep then PanT pid s R at_ 4 S r S' else if 4096<n+1 then PanT pid s R at_ 3 S r S' else r=.ret (.tup [])/\Hs S' (plB pid s i (n+1)::R)/\Kp S' S:=by
 refine⟨rfl,?_⟩;refine goW ?_;by_cases c:64<deep
 ·rw[dT (show (64:Int)<deep by omega)];simp only[if_pos c];refine goW ?_;refine call_rule (by rfl) (hm _ _ _ _ _ (hf at_ 4 h) ?_);rintro r S2 hp;have hp:=PanP.toT hp (Kp.refl _);obtain⟨id,i',n',rfl,h1,h2⟩:=hp;exact⟨_,_,_,rfl,h1,h2⟩
 rw[dF (show ¬(64:Int)<deep by omega)];simp only[if_neg c];refine goW ?_;refine step_ruleO (sx_plN h rfl) (goW ?_);rw[wr64 (by omega) (by omega),show (n:Int)+1=((n+1:Nat):Int) by omega];refine r_plN h rfl rfl λS3 h3 k3=>?_;refine goW ?_;refine step_ruleO (sx_plN h3 rfl) (goW ?_);by_cases c2:4096<n+1
 ·rw[dT (show (4096:Int)<((n+1:Nat):Int) by omega)];simp only[if_pos c2];refine goW ?_;refine call_rule (by rfl) (hm _ _ _ _ _ (hf at_ 3 h3) ?_);rintro r S2 hp;have hp:=PanP.toT hp k3;obtain⟨id,i',n',rfl,h1,h2⟩:=hp;exact⟨_,_,_,rfl,h1,h2⟩
 rw[dF (show ¬(4096:Int)<((n+1:Nat):Int) by omega)];simp only[if_neg c2];refine goW ?_;exact⟨_,rfl,rfl,h3,k3⟩
end

section
variable {gt:GT}{C:CallT}
theorem quotedP_wp (hm:MonoC C){S:St}{R:List Rs}{pid i n:Nat}{s:List UInt8}(h:Hs S (plB pid s i n::R))(hi:i<=s.length)(hl:s.length<=16777216)
  (hq:∀{S:St} {R:List Rs} (s:List UInt8),Hs S R->s.length<=16777216->C 139 [.str s] S (QPost (quoB s) R S))
  (hqn:∀t k,quoB (s.drop i)=.ok t k->i+k<=s.length) (hqb:∀a w,quoB (s.drop i)=.bad a w->i+a<=s.length)
  (hf:∀{S:St} {R:List Rs} (at_ why:Nat),Hs S R->C 97 [.int .i64 at_,.int .i64 why] S (PanP R at_ why S)) :
  wpF gt C F92 [.ptr pid 0] S λr S'=>match quoB (s.drop i) with
   |.ok t k=>r=.ret (.str t)/\Hs S' (plB pid s (i+k) n::R)/\Kp S' S
   |.bad a w=>PanT pid s R (i+a) w S r S':=by
 refine⟨rfl,?_⟩;refine goW ?_;refine step_ruleDO rfl rfl (sx_plS h rfl) (goW ?_);refine step_ruleDO rfl rfl (sx_plI h rfl) (goW ?_);refine step_ruleDO rfl rfl (sx_slLo (l:=i) rfl rfl hi) (goW ?_);refine call_ruleD (by rfl) (hm _ _ _ _ _ (hq (s.drop i) h (by rw[lD];omega)) ?_);intro r S2 hp;unfold QPost at hp;cases e:quoB (s.drop i) with
 | ok t k =>
  rw[e]at hp;obtain⟨⟨rfl,h2⟩,k2⟩:=hp;have:=hqn t k e;refine goW ?_;refine step_ruleO (sx_plI h2 rfl) (goW ?_);rw[wr64 (by omega) (by omega),show (i:Int)+k=((i+k:Nat):Int) by omega];refine r_plI h2 rfl rfl λS3 h3 k3=>?_;refine goW ?_;exact⟨_,rfl,rfl,h3,k3.trans k2⟩
 | bad a w =>
  rw[e]at hp;obtain⟨⟨id,rfl,h2⟩,k2⟩:=hp;have:=hqb a w e;have hb:=(h2.ok (R.length+1) (wrB id a w) (by simp)).2;refine goW ?_;refine step_ruleDO rfl rfl (sx_plI h2 rfl) (goW ?_);refine step_ruleDO rfl rfl (sx_ldBs hb rfl rfl) (goW ?_);refine step_ruleDO rfl rfl (sx_ldBs hb rfl rfl) (goW ?_);rw[wr64 (by omega) (by omega),show (i:Int)+a=((i+a:Nat):Int) by omega];refine call_ruleD (by rfl) (hm _ _ _ _ _ (hf (i+a) w h2) ?_);rintro r S3 ⟨id2,rfl,h3,k3⟩;refine⟨id2,i,n,rfl,h3.less (λj=>if j<=R.length then j else j+1) ?_ ?_,k3.trans k2⟩
  ·intro x y _ _ e;by_cases p:x<=R.length<;>by_cases q:y<=R.length
   ·rw[if_pos p,if_pos q]at e;exact e
   ·rw[if_pos p,if_neg q]at e;omega
   ·rw[if_neg p,if_pos q]at e;omega
   ·rw[if_neg p,if_neg q]at e;omega
  ·intro j hj;show _=((plB pid s i n::R)++[wrB id2 (i+a) w])[j]?;simp only[lC,lA,lN]at hj;by_cases p:j<=R.length
   ·have p1:j<(plB pid s i n::R).length:=by rw[lC];omega
    rw[if_pos p,List.getElem?_append_left (by rw[lA];omega),List.getElem?_append_left p1,List.getElem?_append_left p1]
   ·obtain rfl:j=R.length+1:=by omega
    rw[if_neg p,List.getElem?_append_right (by simp),List.getElem?_append_right (by simp)];simp
end
end Go.Dn

namespace Go.Dn
open Go Go.Proofs.C1
set_option maxRecDepth 100000
mutual
def TV (S:St):PT->AV->Prop
 |.mk k s keys kids,x=>∃o1 o2 xs,x=.agg [.int .i64 k,.str s,.sl 1 o1 (strs keys),.sl 4 o2 xs]/\rd S o1=.here/\rd S o2=.here/\TVs S kids xs
def TVs (S:St):List PT->List AV->Prop
 | [],xs=>xs=[]
 | t::r,xs=>∃y ys,xs=y::ys/\TV S t y/\TVs S r ys
end
theorem rd_kp {S S':St}{o:SI}(h:Kp S' S):rd S' o=rd S o:=by unfold rd;rw[h.1,h.2]
mutual
theorem TV.kp {S S':St}(h:Kp S' S):∀(t:PT) (x:AV),TV S t x->TV S' t x
 |.mk k s keys kids,x,q=>by
  simp only[TV]at q ⊢;obtain⟨o1,o2,xs,e,a,b,c⟩:=q;exact⟨o1,o2,xs,e,by rw[rd_kp h,a],by rw[rd_kp h,b],TVs.kp h kids xs c⟩
theorem TVs.kp {S S':St}(h:Kp S' S):∀(l:List PT) (xs:List AV),TVs S l xs->TVs S' l xs
 | [],xs,q=>by simp only[TVs]at q ⊢;exact q
 | t::r,xs,q=>by
  simp only[TVs]at q ⊢;obtain⟨y,ys,e,a,b⟩:=q;exact⟨y,ys,e,TV.kp h t y a,TVs.kp h r ys b⟩
end
mutual
theorem TV.stat {S:St}:∀t:PT,TV S t (encT t)
 |.mk k s keys kids=>by
  simp only[TV];exact⟨Dn.stat,Dn.stat,encTs kids,by simp only[encT],rfl,rfl,TVs.stat kids⟩
theorem TVs.stat {S:St}:∀l:List PT,TVs S l (encTs l)
 | []=>by simp only[TVs,encTs]
 | t::r=>by
  simp only[TVs,encTs];exact⟨_,_,rfl,TV.stat t,TVs.stat r⟩
end
mutual
theorem TV.rdo {S:St}:∀(t:PT) (x:AV),TV S t x->Rdo S (encT t) x
 |.mk k s keys kids,x,q=>by
  simp only[TV]at q;obtain⟨o1,o2,xs,rfl,a,b,c⟩:=q;simp only[encT,Rdo,Rdos];refine⟨_,rfl,_,_,rfl,rfl,_,_,rfl,rfl,_,_,rfl,⟨trivial,o1,strs keys,false,strs keys,rfl,by unfold elems;rw[a],(sta_strs keys).rdos⟩,_,_,rfl,⟨trivial,o2,xs,true,xs,rfl,by unfold elems;rw[b],TVs.rdos kids xs c⟩,rfl⟩
theorem TVs.rdos {S:St}:∀(l:List PT) (xs:List AV),TVs S l xs->Rdos S (encTs l) xs
 | [],xs,q=>by simp only[TVs]at q;subst q;simp only[encTs,Rdos]
 | t::r,xs,q=>by
  simp only[TVs]at q;obtain⟨y,ys,rfl,a,b⟩:=q;simp only[encTs,Rdos];exact⟨_,_,rfl,TV.rdo t y a,TVs.rdos r ys b⟩
end
theorem TVs.snoc {S:St}{t:PT}{y:AV}:∀(l:List PT) (xs:List AV),TVs S l xs->TV S t y->TVs S (l++[t]) (xs++[y])
 | [],xs,q,h=>by
  simp only[TVs]at q;subst q;simp only[List.nil_append,TVs];exact⟨_,_,rfl,h,rfl⟩
 | u::r,xs,q,h=>by
  simp only[TVs]at q;obtain⟨z,zs,rfl,a,b⟩:=q;simp only[List.cons_append,TVs];exact⟨_,_,rfl,a,TVs.snoc r zs b h⟩
theorem TVs.len {S:St}:∀(l:List PT) (xs:List AV),TVs S l xs->xs.length=l.length
 | [],xs,q=>by simp only[TVs]at q;subst q;rfl
 | t::r,xs,q=>by
  simp only[TVs]at q;obtain⟨y,ys,rfl,_,b⟩:=q;rw[lC,lC,TVs.len r ys b]
theorem TV.agg {S:St}{t:PT}{x:AV}(h:TV S t x):∃o1 o2 xs,x=.agg [.int .i64 t.k,.str t.s,.sl 1 o1 (strs t.keys),.sl 4 o2 xs]:=by
 obtain⟨k,s,keys,kids⟩:=t;simp only[TV]at h;obtain⟨o1,o2,xs,e,_⟩:=h;exact⟨o1,o2,xs,e⟩
theorem TV.leaf {S:St}{k:Int}{t:List UInt8}{v:AV}{o1 o2:SI}(h:v=.agg [.int .i64 k,.str t,.sl 1 o1 [],.sl 4 o2 []])(h1:rd S o1=.here)(h2:rd S o2=.here):TV S (.mk k t [] []) v:=by
 simp only[TV,TVs];exact⟨o1,o2,[],by rw[h];rfl,h1,h2,rfl⟩
end Go.Dn

namespace Go.Dn
open Go Go.Proofs.C1
set_option maxRecDepth 100000
attribute [local irreducible] afterS keepE
inductive ScR where
 | ok (k:Int) (t:List UInt8) (e:Nat)
 | bad (i w:Nat)
def scaR (s:List UInt8)(i:Nat):ScR :=
 match s[i]? with
 | none=>.bad s.length 14
 | some c =>
  if (digC c || Nat.beq c.toNat 45)=true then
   if (normB (midP s i (rowE numC s i))).2=0 then .ok 3 (normB (midP s i (rowE numC s i))).1 (rowE numC s i) else .bad i (normB (midP s i (rowE numC s i))).2.toNat
  else if letC c=true then
   if midP s i (rowE letC s i)=w4null then .ok 1 [] (rowE letC s i)
   else if midP s i (rowE letC s i)=w4true\/midP s i (rowE letC s i)=w5false then .ok 2 (midP s i (rowE letC s i)) (rowE letC s i)
   else .bad i 13
  else .bad i 13
section
variable {gt:GT}{C:CallT}
theorem sx_eqU {d:Option Nat}{env:Env}{S:St}{x y:DOpd}{a b:Int}{v:Bool}(hx:opd env x=some (.int .u8 a))(hy:opd env y=some (.int .u8 b))(hv:(a == b)=v):stepO gt d env S (.bin .eql (some .int) x y)=.done (putV d (.bool v) env) S:=by
 subst hv;simp only[stepO,hx,hy];rfl
def ScaP (s:List UInt8)(i n pid:Nat)(R:List Rs)(S:St):Res->St->Prop:=λr S'=>match scaR s i with
 |.ok k t e=>∃v,r=.ret v/\TV S' (.mk k t [] []) v/\Hs S' (plB pid s e n::R)/\Kp S' S
 |.bad a w=>PanT pid s R a w S r S'
theorem scalar_wp (hm:MonoC C){S:St}{R:List Rs}{pid i n:Nat}{s:List UInt8}(h:Hs S (plB pid s i n::R))(hi:i<=s.length)(hl:s.length<=16777216)
  (hd:∀b:UInt8,PF C 141 [.int .u8 b.toNat] (.bool (digC b))) (hle:∀b:UInt8,PF C 142 [.int .u8 b.toNat] (.bool (letC b)))
  (hrn:∀{S:St} {R:List Rs} {i:Nat},Hs S (plB pid s i n::R)->i<=s.length->C 88 [.ptr pid 0,.fn 96 [] []] S (RowP numC pid s i n R S))
  (hrl:∀{S:St} {R:List Rs} {i:Nat},Hs S (plB pid s i n::R)->i<=s.length->C 88 [.ptr pid 0,.fn 142 [] []] S (RowP letC pid s i n R S))
  (hno:∀t:List UInt8,t.length<=16777216->PF C 81 [.str t] (encJoin (normB t))) (hnn:∀t:List UInt8,0<=(normB t).2)
  (hb:∀{S:St} {R:List Rs} {i:Nat},Hs S (plB pid s i n::R)->C 55 [.ptr pid 0] S (PanP (plB pid s i n::R) (errA s i) (errW s i) S))
  (hf:∀{S:St} {R:List Rs} (at_ why:Nat),Hs S R->C 97 [.int .i64 at_,.int .i64 why] S (PanP R at_ why S)) :
  wpF gt C F98 [.ptr pid 0] S (ScaP s i n pid R S):=by
 refine⟨rfl,?_⟩;refine goW ?_;refine step_ruleO (sx_plI h rfl) (goW ?_);refine step_ruleDO rfl rfl (sx_plI h rfl) (goW ?_);refine step_ruleDO rfl rfl (sx_plS h rfl) (goW ?_);by_cases c:i<s.length
 case neg =>
  rw[dF (show ¬(i:Int)<s.length by omega)];refine goW ?_;refine step_ruleDO rfl rfl (sx_plI h rfl) (goW ?_);refine step_ruleDO rfl rfl (sx_plS h rfl) (goW ?_);rw[dF (show ¬(i:Int)<s.length by omega)];refine goW ?_;refine call_rule (by rfl) (hm _ _ _ _ _ (hb h) ?_);rintro r S2 hp;have hp:=PanP.toT hp (Kp.refl _);have e:scaR s i=.bad (errA s i) (errW s i):=by
   unfold scaR errA errW;rw[List.getElem?_eq_none (by omega),if_neg c,if_neg c]
  unfold ScaP;rw[e];obtain⟨id,i',n',rfl,h1,h2⟩:=hp;exact⟨_,_,_,rfl,h1,h2⟩
 rw[dT (show (i:Int)<s.length by omega)];have hgi:s[i]? = some s[i]:=gE c;generalize s[i]=b at hgi;refine goW ?_;refine step_ruleDG rfl rfl rfl (sx_plS h rfl) (goW ?_);refine step_ruleDG rfl rfl rfl (sx_plI h rfl) (goW ?_);refine step_ruleDG rfl rfl rfl (sx_ixS (k:=i) rfl rfl hgi) (goW ?_);refine call_pfD hm (by rfl) (hd b) ?_;cases c0:digC b with
 | true =>
  refine goW ?_;refine call_rule (by rfl) (hm _ _ _ _ _ (hrn h hi) ?_);rintro r S2 ⟨rfl,h2,k2⟩;have hml:(midP s i (rowE numC s i)).length<=16777216:=by unfold midP;rw[lT,lD];omega
  have hs:scaR s i=if (normB (midP s i (rowE numC s i))).2=0 then .ok 3 (normB (midP s i (rowE numC s i))).1 (rowE numC s i) else .bad i (normB (midP s i (rowE numC s i))).2.toNat:=by
   unfold scaR;rw[hgi];simp only;rw[if_pos (by rw[c0];rfl)]
  have hno:=hno (midP s i (rowE numC s i)) hml;have hnn:=hnn (midP s i (rowE numC s i));generalize normB (midP s i (rowE numC s i))=q at hno hnn hs;generalize midP s i (rowE numC s i)=m at hno;generalize rowE numC s i=e at h2 hs;obtain⟨t,w⟩:=q;unfold encJoin at hno;simp only at hno hnn hs;refine goW ?_;refine call_pf hm (by rfl) hno (goW ?_);by_cases z:w=0
  ·rw[neI_false z];rw[if_pos z]at hs;refine goW ?_;refine⟨_,rfl,?_⟩;unfold ScaP;rw[hs];exact⟨_,rfl,TV.leaf rfl rfl rfl,h2,k2⟩
  ·rw[neI_true z];rw[if_neg z]at hs;obtain⟨w',rfl⟩:=Int.eq_ofNat_of_zero_le hnn;rw[Int.toNat_natCast]at hs;refine goW ?_;refine call_rule (by rfl) (hm _ _ _ _ _ (hf i w' h2) ?_);rintro r S3 hp;have hp:=PanP.toT hp k2;unfold ScaP;rw[hs];obtain⟨id,i',n',rfl,h1,h3⟩:=hp;exact⟨_,_,_,rfl,h1,h3⟩
 | false =>
  refine goW ?_;refine step_ruleDG rfl rfl rfl (sx_plS h rfl) (goW ?_);refine step_ruleDG rfl rfl rfl (sx_plI h rfl) (goW ?_);refine step_ruleDG rfl rfl rfl (sx_ixS (k:=i) rfl rfl hgi) ?_;refine⟨rfl,?_⟩;have q45:((b.toNat:Int) == 45)=Nat.beq b.toNat 45:=(beq_dec b.toNat 45).symm;cases c1:Nat.beq b.toNat 45 with
  | true =>
   rw[c1]at q45;refine step_ruleDG rfl rfl rfl (sx_eqU rfl rfl q45) (goW ?_);refine call_rule (by rfl) (hm _ _ _ _ _ (hrn h hi) ?_);rintro r S2 ⟨rfl,h2,k2⟩;have hml:(midP s i (rowE numC s i)).length<=16777216:=by unfold midP;rw[lT,lD];omega
   have hs:scaR s i=if (normB (midP s i (rowE numC s i))).2=0 then .ok 3 (normB (midP s i (rowE numC s i))).1 (rowE numC s i) else .bad i (normB (midP s i (rowE numC s i))).2.toNat:=by
    unfold scaR;rw[hgi];simp only;rw[if_pos (by rw[c0,c1];rfl)]
   have hno:=hno (midP s i (rowE numC s i)) hml;have hnn:=hnn (midP s i (rowE numC s i));generalize normB (midP s i (rowE numC s i))=q at hno hnn hs;generalize midP s i (rowE numC s i)=m at hno;generalize rowE numC s i=e at h2 hs;obtain⟨t,w⟩:=q;unfold encJoin at hno;simp only at hno hnn hs;refine goW ?_;refine call_pf hm (by rfl) hno (goW ?_);by_cases z:w=0
   ·rw[neI_false z];rw[if_pos z]at hs;refine goW ?_;refine⟨_,rfl,?_⟩;unfold ScaP;rw[hs];exact⟨_,rfl,TV.leaf rfl rfl rfl,h2,k2⟩
   ·rw[neI_true z];rw[if_neg z]at hs;obtain⟨w',rfl⟩:=Int.eq_ofNat_of_zero_le hnn;rw[Int.toNat_natCast]at hs;refine goW ?_;refine call_rule (by rfl) (hm _ _ _ _ _ (hf i w' h2) ?_);rintro r S3 hp;have hp:=PanP.toT hp k2;unfold ScaP;rw[hs];obtain⟨id,i',n',rfl,h1,h3⟩:=hp;exact⟨_,_,_,rfl,h1,h3⟩
  | false =>
   rw[c1]at q45;refine step_ruleDG rfl rfl rfl (sx_eqU rfl rfl q45) (goW ?_);refine step_ruleDO rfl rfl (sx_plI h rfl) (goW ?_);refine step_ruleDO rfl rfl (sx_plS h rfl) (goW ?_);rw[dT (show (i:Int)<s.length by omega)];refine goW ?_;refine step_ruleDG rfl rfl rfl (sx_plS h rfl) (goW ?_);refine step_ruleDG rfl rfl rfl (sx_plI h rfl) (goW ?_);refine step_ruleDG rfl rfl rfl (sx_ixS (k:=i) rfl rfl hgi) (goW ?_);refine call_pfD hm (by rfl) (hle b) ?_;cases c2:letC b with
   | false =>
    refine goW ?_;refine call_rule (by rfl) (hm _ _ _ _ _ (hb h) ?_);rintro r S2 hp;have hp:=PanP.toT hp (Kp.refl _);have e:scaR s i=.bad (errA s i) (errW s i):=by
     unfold scaR errA errW;rw[hgi,if_pos c,if_pos c];simp only;rw[if_neg (by rw[c0,c1];exact Bool.false_ne_true),if_neg (by rw[c2];exact Bool.false_ne_true)]
    unfold ScaP;rw[e];obtain⟨id,i',n',rfl,h1,h2⟩:=hp;exact⟨_,_,_,rfl,h1,h2⟩
   | true =>
    refine goW ?_;refine call_rule (by rfl) (hm _ _ _ _ _ (hrl h hi) ?_);rintro r S2 ⟨rfl,h2,k2⟩;have hs:scaR s i=if midP s i (rowE letC s i)=w4null then .ok 1 [] (rowE letC s i) else if midP s i (rowE letC s i)=w4true\/midP s i (rowE letC s i)=w5false then .ok 2 (midP s i (rowE letC s i)) (rowE letC s i) else .bad i 13:=by
     unfold scaR;rw[hgi];simp only;rw[if_neg (by rw[c0,c1];exact Bool.false_ne_true),if_pos c2]
    generalize midP s i (rowE letC s i)=m at hs;generalize rowE letC s i=e at h2 hs;refine goW ?_;by_cases z1:m=w4null
    ·rw[beqB_iff.2 z1];rw[if_pos z1]at hs;refine goW ?_;refine⟨_,rfl,?_⟩;unfold ScaP;rw[hs];exact⟨_,rfl,TV.leaf rfl rfl rfl,h2,k2⟩
    rw[show beqB m [110,117,108,108]=false from by cases q:beqB m [110,117,108,108] with | true=>exact absurd (beqB_iff.1 q) z1 | false=>rfl];rw[if_neg z1]at hs;refine goW ?_;by_cases z2:m=w4true
    ·rw[beqB_iff.2 z2];rw[if_pos (.inl z2)]at hs;refine goW ?_;refine⟨_,rfl,?_⟩;unfold ScaP;rw[hs];exact⟨_,rfl,TV.leaf rfl rfl rfl,h2,k2⟩
    rw[show beqB m [116,114,117,101]=false from by cases q:beqB m [116,114,117,101] with | true=>exact absurd (beqB_iff.1 q) z2 | false=>rfl];refine goW ?_;by_cases z3:m=w5false
    ·rw[beqB_iff.2 z3];rw[if_pos (.inr z3)]at hs;refine goW ?_;refine⟨_,rfl,?_⟩;unfold ScaP;rw[hs];exact⟨_,rfl,TV.leaf rfl rfl rfl,h2,k2⟩
    rw[show beqB m [102,97,108,115,101]=false from by cases q:beqB m [102,97,108,115,101] with | true=>exact absurd (beqB_iff.1 q) z3 | false=>rfl];rw[if_neg (λh=>h.elim z2 z3)]at hs;refine goW ?_;refine call_rule (by rfl) (hm _ _ _ _ _ (hf i 13 h2) ?_);rintro r S3 hp;have hp:=PanP.toT hp k2;unfold ScaP;rw[hs];obtain⟨id,i',n',rfl,h1,h3⟩:=hp;exact⟨_,_,_,rfl,h1,h3⟩
end
end Go.Dn

namespace Go.Dn
open Go Go.Proofs.C1
set_option maxRecDepth 100000
theorem rowE_idem {p:UInt8->Bool}{s:List UInt8}{i:Nat}:rowE p s (rowE p s i)=rowE p s i:=by
 by_cases h:rowE p s i<s.length
 ·refine rowE_out (c:=s[rowE p s i]) (gE h) ?_;unfold rowE;have key:∀(l:List UInt8) (j:Nat) (hj:j<l.length),j=(l.takeWhile p).length->p l[j]=false:=by
   intro l
   induction l with
   | nil=>intro j hj;simp at hj
   | cons a r ih =>
    intro j hj e;by_cases ha:p a=true
    ·rw[List.takeWhile_cons_of_pos ha,lC]at e;subst e;rw[List.getElem_cons_succ];exact ih _ _ rfl
    ·rw[List.takeWhile_cons_of_neg ha]at e;subst e;simpa using ha
  have h2:((s.drop i).takeWhile p).length<(s.drop i).length:=by
   rw[lD];unfold rowE at h;omega
  have:=key (s.drop i) _ h2 rfl;rw[List.getElem_drop]at this;exact this
 ·exact rowE_end (by omega)
def PR.fine (s:List UInt8)(i n:Nat):PR->Prop
 |.ok t e m=>i<e/\e<=s.length/\n<m/\m<=4096/\t.ok
 |.bad a w=>a<=s.length/\0<w
theorem ok_leaf {k:Int}{x:List UInt8}:(PT.mk k x [] []).ok:=by simp only[PT.ok,PT.oks];exact⟨by decide,by decide,trivial⟩
theorem oks_of:∀{l:List PT},(∀u∈l,u.ok)->PT.oks l
 | [],_=>by simp only[PT.oks]
 | t::r,h=>by simp only[PT.oks];exact⟨h t (List.mem_cons_self ..),oks_of λu hu=>h u (List.mem_cons_of_mem _ hu)⟩
theorem ok_of {k:Int}{x:List UInt8}{keys:List (List UInt8)}{kids:List PT}(h1:keys.length<=5000)(h2:kids.length<=5000)(h:∀u∈kids,u.ok):(PT.mk k x keys kids).ok:=by
 simp only[PT.ok];exact⟨by omega,by omega,oks_of h⟩
theorem all_snoc {l:List PT}{t:PT}(h:∀u∈l,u.ok)(ht:t.ok):∀u∈l++[t],u.ok:=λu hu=>by
 rcases List.mem_append.1 hu with hu | hu
 ·exact h u hu
 ·rw[List.mem_singleton.1 hu];exact ht
theorem errP_fine {s:List UInt8}{i j n:Nat}(h:i<=s.length):(errP s i).fine s j n:=by
 unfold errP;split<;>simp only[PR.fine]<;>omega
theorem nodP_fine {s:List UInt8}{deep i n:Nat}{x:PR}(h:i<=s.length)(hx:n+1<=4096->x.fine s i n):(nodP deep i n x).fine s i n:=by
 unfold nodP;split
 ·simp only[PR.fine];omega
 split
 ·simp only[PR.fine];omega
 ·exact hx (by omega)
theorem scaP_fine {s:List UInt8}{deep i n:Nat}{c:UInt8}(hc:s[i]? = some c)(hnn:∀t:List UInt8,0<=(normB t).2)(h45:numC 45=true):(scaP s deep i n c).fine s i n:=by
 have hi:i<s.length:=(List.getElem?_eq_some_iff.1 hc).1;unfold scaP;by_cases h1:(digC c || Nat.beq c.toNat 45)=true
 ·have hn:numC c=true:=by
   rw[Bool.or_eq_true]at h1;rcases h1 with h1 | h1
   ·unfold numC;rw[h1];rfl
   ·have:c=45:=by have:=bE h1;exact UInt8.toNat_inj.1 (by rw[this];rfl)
    rw[this,h45]
  have h2:i<rowE numC s i:=by rw[rowE_in hc hn];have:=rowE_ge (p:=numC) (s:=s) (i:=i+1);omega
  have h3:rowE numC s i<=s.length:=rowE_le (by omega);rw[if_pos h1];split
  ·exact nodP_fine (by omega) λh=>⟨h2,h3,by omega,by omega,ok_leaf⟩
  ·have:=hnn (midP s i (rowE numC s i));simp only[PR.fine];omega
 rw[if_neg h1];by_cases hl:letC c=true
 ·have h2:i<rowE letC s i:=by rw[rowE_in hc hl];have:=rowE_ge (p:=letC) (s:=s) (i:=i+1);omega
  have h3:rowE letC s i<=s.length:=rowE_le (by omega);rw[if_pos hl];split
  ·exact nodP_fine (by omega) λh=>⟨h2,h3,by omega,by omega,ok_leaf⟩
  split
  ·exact nodP_fine (by omega) λh=>⟨h2,h3,by omega,by omega,ok_leaf⟩
  ·simp only[PR.fine];omega
 ·rw[if_neg hl];simp only[PR.fine];omega
def QuoOK (s:List UInt8):Prop:=(∀i t k,quoB (s.drop i)=.ok t k->0<k/\i+k<=s.length)/\(∀i a w,i<=s.length->quoB (s.drop i)=.bad a w->i+a<=s.length/\0<w)
theorem reads_fine {s:List UInt8}(hq:QuoOK s)(hnn:∀t:List UInt8,0<=(normB t).2)(h45:numC 45=true):∀f:Nat,
  (∀deep i n,i<=s.length->2*(s.length-i)+1<=f->(treeP s f deep i n).fine s i n) /\
  (∀deep i n acc,i<=s.length->n<=4096->acc.length<=n->(∀u∈acc,u.ok)->2*(s.length-i)+2<=f->(listP s f deep i n acc).fine s i n) /\
  (∀deep i n keys kids,i<=s.length->n<=4096->keys.length<=n->kids.length<=n->(∀u∈kids,u.ok)->2*(s.length-i)+2<=f->(recP s f deep i n keys kids).fine s i n):=by
 intro f
 induction f with
 | zero=>exact⟨λ_ _ _ _ h=>by omega,λ_ _ _ _ _ _ _ _ h=>by omega,λ_ _ _ _ _ _ _ _ _ _ h=>by omega⟩
 | succ f ih =>
  obtain⟨ih1,ih2,ih3⟩:=ih;have drop1:∀{i n m j:Nat} {x:PR},i<=j->n<=m->x.fine s j m->x.fine s i n:=λ{i n m j x} h1 h2 h=>by
   cases x with
   | ok t e k=>exact⟨by have:=h.1;omega,h.2.1,by have:=h.2.2.1;omega,h.2.2.2.1,h.2.2.2.2⟩
   | bad a w=>exact h
  refine⟨?_,?_,?_⟩
  ·intro deep i n hi hf;rw[treeP];cases hc:s[i]? with
   | none=>simp only[PR.fine];omega
   | some c =>
    have hlt:i<s.length:=(List.getElem?_eq_some_iff.1 hc).1;simp only;split
    ·refine nodP_fine hi λh=>?_;cases e:quoB (s.drop i) with
     | ok t k=>have:=hq.1 i t k e;exact⟨by omega,by omega,by omega,by omega,ok_leaf⟩
     | bad a w=>have:=hq.2 i a w hi e;simp only[PR.fine];omega
    split
    ·refine nodP_fine hi λh=>?_;have h2:=rowE_ge (p:=blaC) (s:=s) (i:=i+1);split
     ·rename_i h1;have:=isC_lt h1;exact⟨by omega,by omega,by omega,by omega,ok_leaf⟩
     ·exact drop1 (j:=i+1) (m:=n+1) (by omega) (by omega) (ih2 deep (i+1) (n+1) [] (by omega) (by omega) (Nat.zero_le _) (λu hu=>by cases hu) (by omega))
    split
    ·refine nodP_fine hi λh=>?_;have h2:=rowE_ge (p:=blaC) (s:=s) (i:=i+1);split
     ·rename_i h1;have:=isC_lt h1;exact⟨by omega,by omega,by omega,by omega,ok_leaf⟩
     ·exact drop1 (j:=i+1) (m:=n+1) (by omega) (by omega) (ih3 deep (i+1) (n+1) [] [] (by omega) (by omega) (Nat.zero_le _) (Nat.zero_le _) (λu hu=>by cases hu) (by omega))
    split
    ·have h2:=rowE_ge (p:=timC) (s:=s) (i:=i+1);have h3:=rowE_le (p:=timC) (s:=s) (i:=i+1) (by omega);split
     ·exact nodP_fine hi λh=>⟨by omega,h3,by omega,by omega,ok_leaf⟩
     ·simp only[PR.fine];omega
    ·exact scaP_fine hc hnn h45
  ·intro deep i n acc hi hn ha hk hf;rw[listP];have h2:=rowE_ge (p:=blaC) (s:=s) (i:=i);have h3:=rowE_le (p:=blaC) (s:=s) hi;have k1:=ih1 (deep+1) (rowE blaC s i) n h3 (by omega);cases e:treeP s f (deep+1) (rowE blaC s i) n with
   | bad a w=>rw[e]at k1;exact k1
   | ok t j m =>
    rw[e]at k1;simp only[PR.fine]at k1;simp only;have h4:=rowE_ge (p:=blaC) (s:=s) (i:=j);have h5:=rowE_le (p:=blaC) (s:=s) (i:=j) (by omega);split
    ·rename_i h1;have:=isC_lt h1;exact drop1 (j:=rowE blaC s j+1) (m:=m) (by omega) (by omega) (ih2 deep (rowE blaC s j+1) m (acc++[t]) (by omega) (by omega) (by simp only[lA,lC,lN];omega) (all_snoc hk k1.2.2.2.2) (by omega))
    split
    ·rename_i h1;have:=isC_lt h1;exact⟨by omega,by omega,by omega,by omega,ok_of (Nat.zero_le _) (by simp only[lA,lC,lN];omega) (all_snoc hk k1.2.2.2.2)⟩
    ·exact errP_fine h5
  ·intro deep i n keys kids hi hn ha hb hk hf;rw[recP];have h2:=rowE_ge (p:=blaC) (s:=s) (i:=i);have h3:=rowE_le (p:=blaC) (s:=s) hi;split
   ·cases e:quoB (s.drop (rowE blaC s i)) with
    | bad a w=>have:=hq.2 _ a w h3 e;simp only[PR.fine];omega
    | ok k m =>
     have hq1:=hq.1 _ k m e;simp only;split
     ·simp only[PR.fine];omega
     have h4:=rowE_ge (p:=blaC) (s:=s) (i:=rowE blaC s i+m);have h5:=rowE_le (p:=blaC) (s:=s) (i:=rowE blaC s i+m) (by omega);split
     ·rename_i h1;have h1:=isC_lt h1;have h6:=rowE_ge (p:=blaC) (s:=s) (i:=rowE blaC s (rowE blaC s i+m)+1);have h7:=rowE_le (p:=blaC) (s:=s) (i:=rowE blaC s (rowE blaC s i+m)+1) (by omega);have k1:=ih1 (deep+1) _ n h7 (by omega);cases e2:treeP s f (deep+1) (rowE blaC s (rowE blaC s (rowE blaC s i+m)+1)) n with
      | bad a w=>rw[e2]at k1;exact k1
      | ok t j n' =>
       rw[e2]at k1;simp only[PR.fine]at k1;simp only;have h8:=rowE_ge (p:=blaC) (s:=s) (i:=j);have h9:=rowE_le (p:=blaC) (s:=s) (i:=j) (by omega);split
       ·rename_i g1;have:=isC_lt g1;exact drop1 (j:=rowE blaC s j+1) (m:=n') (by omega) (by omega) (ih3 deep (rowE blaC s j+1) n' _ _ (by omega) (by omega) (by simp only[lA,lC,lN];omega) (by simp only[lA,lC,lN];omega) (all_snoc hk k1.2.2.2.2) (by omega))
       split
       ·rename_i g1;have:=isC_lt g1;exact⟨by omega,by omega,by omega,by omega,ok_of (by simp only[lA,lC,lN];omega) (by simp only[lA,lC,lN];omega) (all_snoc hk k1.2.2.2.2)⟩
       ·exact errP_fine h9
     ·exact errP_fine h5
   ·exact errP_fine h3
theorem quoL_fine:∀(m:Nat) (rest:List UInt8) (i:Nat) (acc:List UInt8),rest.length<=m->(∀t n,quoL rest i acc=.ok t n->i<n/\n<=i+rest.length)/\(∀a w,quoL rest i acc=.bad a w->a<=i+rest.length/\0<w):=by
 intro m
 induction m with
 | zero =>
  intro rest i acc h;obtain rfl:rest=[]:=nL (by omega);rw[quoL];exact⟨λt n e=>(by cases e),λa w e=>by cases e;simp⟩
 | succ m ih =>
  intro rest i acc h;cases rest with
  | nil=>rw[quoL];exact⟨λt n e=>(by cases e),λa w e=>by cases e;simp⟩
  | cons c r =>
   rw[lC]at h;rw[quoL,lC];split
   ·exact⟨λt n e=>(by cases e;omega),λa w e=>by cases e⟩
   split
   ·exact⟨λt n e=>(by cases e),λa w e=>by cases e;omega⟩
   split
   ·cases he:escU r with
    | none=>exact⟨λt n e=>(by cases e),λa w e=>by cases e;omega⟩
    | some p =>
     have:=escU_len he;obtain⟨k1,k2⟩:=ih (r.drop p.2) (i+1+p.2) (acc++encC p.1) (by rw[lD];omega);rw[lD]at k1 k2;exact⟨λt n e=>(by have:=k1 t n e;omega),λa w e=>by have:=k2 a w e;omega⟩
   ·obtain⟨k1,k2⟩:=ih r (i+1) (acc++[c]) (by omega);exact⟨λt n e=>(by have:=k1 t n e;omega),λa w e=>by have:=k2 a w e;omega⟩
theorem quoOK (s:List UInt8):QuoOK s:=by
 have key:∀l:List UInt8,(∀t n,quoB l=.ok t n->0<n/\n<=l.length)/\(∀a w,quoB l=.bad a w->a<=l.length/\0<w):=λl=>by
  cases l with
  | nil=>exact⟨λt n e=>(by cases e),λa w e=>by cases e;simp⟩
  | cons c r =>
   simp only[quoB];split
   ·obtain⟨k1,k2⟩:=quoL_fine r.length r 1 [] (nR _);rw[lC];exact⟨λt n e=>(by have:=k1 t n e;omega),λa w e=>by have:=k2 a w e;omega⟩
   ·exact⟨λt n e=>(by cases e),λa w e=>by cases e;simp⟩
 refine⟨λi t k e=>?_,λi a w hi e=>?_⟩
 ·have:=(key (s.drop i)).1 t k e;rw[lD]at this;omega
 ·have:=(key (s.drop i)).2 a w e;rw[lD]at this;omega
end Go.Dn

namespace Go.Dn
open Go Go.Proofs.C1
set_option maxRecDepth 100000
attribute [local irreducible] afterS keepE
structure RdCs (C:CallT)(s:List UInt8):Prop where
 bla:∀{S:St} {R:List Rs} {pid i n:Nat},Hs S (plB pid s i n::R)->i<=s.length->C 53 [.agg [.ptr pid 0]] S λr S'=>r=.ret (.tup [])/\Hs S' (plB pid s (rowE blaC s i) n::R)/\Kp S' S
 is:∀{S:St} {R:List Rs} {pid i n:Nat} (c:Nat),Hs S (plB pid s i n::R)->C 90 [.ptr pid 0,.int .u8 c] S λr S'=>r=.ret (.bool (isC s i c))/\S'=S
 bad:∀{S:St} {R:List Rs} {pid i n:Nat},Hs S (plB pid s i n::R)->C 55 [.ptr pid 0] S (PanP (plB pid s i n::R) (errA s i) (errW s i) S)
 must:∀{S:St} {R:List Rs} {pid i n:Nat} (c:Nat),Hs S (plB pid s i n::R)->C 140 [.ptr pid 0,.int .u8 c] S λr S'=>if isC s i c=true then r=.ret (.tup [])/\Hs S' (plB pid s (i+1) n::R)/\Kp S' S else PanP (plB pid s i n::R) (errA s i) (errW s i) S r S'
 node:∀{S:St} {R:List Rs} {pid i n at_ deep:Nat},Hs S (plB pid s i n::R)->n<=4096->C 91 [.ptr pid 0,.int .i64 at_,.int .i64 deep,.int .i64 1] S λr S'=>if 64<deep then PanT pid s R at_ 4 S r S' else if 4096<n+1 then PanT pid s R at_ 3 S r S' else r=.ret (.tup [])/\Hs S' (plB pid s i (n+1)::R)/\Kp S' S
 fail:∀{S:St} {R:List Rs} (at_ why:Nat),Hs S R->C 97 [.int .i64 at_,.int .i64 why] S (PanP R at_ why S)
 quo:∀{S:St} {R:List Rs} {pid i n:Nat},Hs S (plB pid s i n::R)->i<=s.length->C 92 [.ptr pid 0] S λr S'=>match quoB (s.drop i) with
   |.ok t k=>r=.ret (.str t)/\Hs S' (plB pid s (i+k) n::R)/\Kp S' S
   |.bad a w=>PanT pid s R (i+a) w S r S'
 rowT:∀{S:St} {R:List Rs} {pid i n:Nat},Hs S (plB pid s i n::R)->i<=s.length->C 88 [.ptr pid 0,.fn 95 [] []] S (RowP timC pid s i n R S)
 sca:∀{S:St} {R:List Rs} {pid i n:Nat},Hs S (plB pid s i n::R)->i<=s.length->C 98 [.ptr pid 0] S (ScaP s i n pid R S)
 time:∀t:List UInt8,t.length<=16777216->PF C 83 [.str t] (.bool (timeB t))
 len:s.length<=16777216
 num:∀t:List UInt8,0<=(normB t).2
def RdT (pid:Nat)(s:List UInt8)(R:List Rs)(S:St)(x:PR):Res->St->Prop:=λr S'=>match x with
 |.ok t e n=>∃v,r=.ret v/\TV S' t v/\Hs S' (plB pid s e n::R)/\Kp S' S
 |.bad a w=>PanT pid s R a w.toNat S r S'
def TreeC (C:CallT)(s:List UInt8)(f:Nat):Prop:=∀{S:St} {R:List Rs} {pid i n deep:Nat},Hs S (plB pid s i n::R)->i<=s.length->n<=4096->deep<=65->2*(s.length-i)+1<=f->C 54 [.agg [.ptr pid 0],.int .i64 deep] S (RdT pid s R S (treeP s f deep i n))
theorem errP_eq (s:List UInt8)(i:Nat):errP s i=.bad (errA s i) (errW s i):=by
 unfold errP errA errW;split<;>rfl
theorem PanT.less {pid:Nat}{s:List UInt8}{R X:List Rs}{a w:Nat}{S:St}{r:Res}{S':St}(h:PanT pid s (R++X) a w S r S'):PanT pid s R a w S r S':=by
 obtain⟨id,i,n,e,h1,h2⟩:=h;refine⟨id,i,n,e,h1.less (λj=>if j<=R.length then j else j+X.length) ?_ ?_,h2⟩
 ·intro x y _ _ e;by_cases p:x<=R.length<;>by_cases q:y<=R.length
  ·rw[if_pos p,if_pos q]at e;exact e
  ·rw[if_pos p,if_neg q]at e;omega
  ·rw[if_neg p,if_pos q]at e;omega
  ·rw[if_neg p,if_neg q]at e;omega
 ·intro j hj;simp only[lC,lA,lN]at hj;by_cases p:j<=R.length
  ·rw[if_pos p];cases j with
   | zero=>rfl
   | succ j =>
    show ((R++X)++[wrB id a w])[j]? = (R++[wrB id a w])[j]?;rw[aA,List.getElem?_append_left (by omega),List.getElem?_append_left (by omega)]
  ·obtain rfl:j=R.length+1:=by omega
   rw[if_neg p];rw[show R.length+1+X.length=(R.length+X.length)+1 by omega];show ((R++X)++[wrB id a w])[R.length+X.length]? = (R++[wrB id a w])[R.length]?;rw[<-lA,List.getElem?_append_right (nR _),List.getElem?_append_right (nR _)];simp
theorem PanT.tr {pid:Nat}{s:List UInt8}{R:List Rs}{a w:Nat}{S S2:St}{r:Res}{S':St}(h:PanT pid s R a w S2 r S')(k:Kp S2 S):PanT pid s R a w S r S':=by
 obtain⟨id,i,n,e,h1,h2⟩:=h;exact⟨id,i,n,e,h1,h2.trans k⟩
theorem Hs.init1 {S:St}{a:Rs}{R X:List Rs}(h:Hs S (a::(R++X))):Hs S (a::R):=by
 refine h.less (λx=>x) (λ_ _ _ _ e=>e) λj hj=>?_;cases j with
 | zero=>rfl
 | succ j =>
  show (R++X)[j]? = R[j]?;rw[List.getElem?_append_left (by simpa using hj)]
theorem listP_bl {s:List UInt8}{f deep i n:Nat}{acc:List PT}:listP s f deep (rowE blaC s i) n acc=listP s f deep i n acc:=by
 cases f with
 | zero=>rw[listP,listP]
 | succ f=>rw[listP,listP,rowE_idem]
section
variable {gt:GT}{C:CallT}
abbrev nil1:AV:=.sl 1 ⟨none,0,some 0,true⟩ []
abbrev nil4:AV:=.sl 4 ⟨none,0,some 0,true⟩ []
abbrev E_lst (pid deep:Nat)(o:SI)(xs:List AV):Env:=[(1,.val (.int .i64 deep)),(2,.box [.ptr pid 0]),(4,.box [.int .i64 0,.str [],nil1,nil4]),(5,.box [.int .i64 6,.str [],nil1,.sl 4 o xs])]
def lisP (s:List UInt8)(f deep i n:Nat):PR:=if isC s (rowE blaC s (i+1)) 93=true then .ok (.mk 6 [] [] []) (rowE blaC s (i+1)+1) n else listP s f deep (i+1) n []
theorem list_wp (hm:MonoC C){s:List UInt8}(K:RdCs C s){f:Nat}(hT:∀g,g<f->TreeC C s g){S:St}{R:List Rs}{pid i n deep:Nat}(h:Hs S (plB pid s i n::R))(hi:isC s i 91=true)(hn:n<=4096)(hd:deep<=64)(hf:2*(s.length-(i+1))+2<=f) :
  wpF gt C F93 [.agg [.ptr pid 0],.int .i64 deep] S (RdT pid s R S (lisP s f deep i n)):=by
 have hlt:=isC_lt hi;have hl:=K.len;refine⟨rfl,?_⟩;refine goW ?_;refine call_rule (by rfl) (hm _ _ _ _ _ (K.must 91 h) ?_);rw[hi];rintro r S1 ⟨rfl,h1,k1⟩;refine goW ?_;refine call_rule (by rfl) (hm _ _ _ _ _ (K.bla h1 (by omega)) ?_);rintro r S2 ⟨rfl,h2,k2⟩;have k2:=k2.trans k1;have b1:=rowE_ge (p:=blaC) (s:=s) (i:=i+1);have b2:=rowE_le (p:=blaC) (s:=s) (i:=i+1) (by omega);refine goW ?_;refine call_rule (by rfl) (hm _ _ _ _ _ (K.is 93 h2) ?_);rintro r S3 ⟨rfl,rfl⟩;refine goW ?_;unfold lisP;cases hc:isC s (rowE blaC s (i+1)) 93 with
 | true =>
  have b3:=isC_lt hc;refine goW ?_;refine step_ruleO (sx_plI h2 rfl) (goW ?_);rw[wr64 (by omega) (by omega),show ((rowE blaC s (i+1):Nat):Int)+1=((rowE blaC s (i+1)+1:Nat):Int) by omega];refine r_plI h2 rfl rfl λS3 h3 k3=>?_;refine goW ?_;refine⟨_,rfl,?_⟩;simp only[if_true];exact⟨_,rfl,TV.leaf rfl rfl rfl,h3,k3.trans k2⟩
 | false =>
  simp only[Bool.false_eq_true,if_false];refine goW ?_;have hA:Hs S3 (plB pid s (rowE blaC s (i+1)) n::(R++[Rs.gr 25 ⟨none,0,some 0,true⟩ []])):=h2.addNil 25 true;have hB:listP s f deep (i+1) n []=listP s f deep (rowE blaC s (i+1)) n []:=listP_bl.symm;generalize listP s f deep (i+1) n []=res at hB ⊢;refine loop_rule hm (α:=Nat) (λg env S'=>∃j m acc o xs,Hs S' (plB pid s j m::(R++[Rs.gr 25 o xs]))/\TVs S' acc xs/\Kp S' S/\j<=s.length/\m<=4096/\acc.length<=m/\res=listP s g deep j m acc/\2*(s.length-j)+2<=g/\g<=f/\env=E_lst pid deep o xs) (λg=>g) ?_ (a:=f) ⟨_,n,[],⟨none,0,some 0,true⟩,[],hA,(by simp only[TVs]),k2,b2,hn,Nat.zero_le _,hB,by omega,nR _,rfl⟩;rintro g env S3 ⟨j,m,acc,o,xs,h3,tv3,k3,hj,hm2,ha,hp,hg,hgf,rfl⟩;cases g with
  | zero=>omega
  | succ g =>
  have c1:=rowE_ge (p:=blaC) (s:=s) (i:=j);have c2:=rowE_le (p:=blaC) (s:=s) hj;have hxl:=TVs.len acc xs tv3;refine goW ?_;refine call_rule (by rfl) (hm _ _ _ _ _ (K.bla h3 hj) ?_);rintro r S4 ⟨rfl,h4,k4⟩;refine goW ?_;rw[wr64 (by omega) (by omega),show (deep:Int)+1=((deep+1:Nat):Int) by omega];refine call_ruleD (by rfl) (hm _ _ _ _ _ (hT g (by omega) h4 c2 hm2 (by omega) (by omega)) ?_);intro r S5 hp5;rw[listP]at hp;cases e5:treeP s g (deep+1) (rowE blaC s j) m with
  | bad a w =>
   rw[e5]at hp5 hp;have hp:res=.bad a w:=hp;have hp5:=(PanT.less hp5).tr (k4.trans k3);obtain⟨id,i',n',rfl,q1,q2⟩:=hp5;rw[hp];exact⟨_,_,_,rfl,q1,q2⟩
  | ok t e m2 =>
  rw[e5]at hp5 hp;have hp:res=if isC s (rowE blaC s e) 44=true then listP s g deep (rowE blaC s e+1) m2 (acc++[t]) else if isC s (rowE blaC s e) 93=true then .ok (.mk 6 [] [] (acc++[t])) (rowE blaC s e+1) m2 else errP s (rowE blaC s e):=hp
  obtain⟨v,rfl,tv5,h5,k5⟩:=hp5;have k5:=k5.trans (k4.trans k3);have fi:=(reads_fine (quoOK s) K.num (by decide) g).1 (deep+1) (rowE blaC s j) m c2 (by omega);rw[e5]at fi;obtain⟨f1,f2,f3,f4,f5⟩:=fi;have tv3:=TVs.kp k5 acc xs (TVs.kp ⟨k3.1.symm,k3.2.symm⟩ acc xs tv3);obtain⟨o5,o6,x5,ev⟩:=tv5.agg;generalize hy:strs t.keys=y5 at ev;generalize t.k=tk at ev;generalize t.s=ts at ev;subst ev;refine goW ?_;have hxy:xs.length<=4096:=by omega
  refine r_appDK h5 (R.length+1) (by simp) (by trivial) rfl rfl rfl (by simp;omega) (by simp;omega) (by decide) (by decide) rfl ?_;intro o7 S7 h7 k7;have h7:Hs S7 (plB pid s e m2::(R++[Rs.gr 25 o7 (xs++[.agg [.int .i64 tk,.str ts,.sl 1 o5 y5,.sl 4 o6 x5]])])):=by
   have:=h7;rw[List.set_cons_succ,List.set_append_right _ _ (nR _),Nat.sub_self]at this;exact this
  have tv7:=TVs.kp k7 _ _ (TVs.snoc acc xs tv3 tv5);have k7:Kp S7 S:=Kp.trans k7 k5;generalize hz:xs++[AV.agg [.int .i64 tk,.str ts,.sl 1 o5 y5,.sl 4 o6 x5]]=zs at h7 tv7;have hz2:xs++(List.replicate 1 (AV.agg [AV.int IntKind.i64 0,AV.str [],AV.sl 1 { tok:=none,off:=0,cap:=some 0,isNil:=true } [],AV.sl 4 { tok:=none,off:=0,cap:=some 0,isNil:=true } []])).set 0 (AV.agg [AV.int IntKind.i64 tk,AV.str ts,AV.sl 1 o5 y5,AV.sl 4 o6 x5])=zs:=hz;refine goW ?_;rw[hz2];have d1:=rowE_ge (p:=blaC) (s:=s) (i:=e);have d2:=rowE_le (p:=blaC) (s:=s) (i:=e) (by omega);refine call_rule (by rfl) (hm _ _ _ _ _ (K.bla h7 f2) ?_);rintro r S8 ⟨rfl,h8,k8⟩;have tv8:=TVs.kp k8 _ _ tv7;have k8:=k8.trans k7;refine goW ?_;refine call_rule (by rfl) (hm _ _ _ _ _ (K.is 44 h8) ?_);rintro r S9 ⟨rfl,rfl⟩;refine goW ?_;cases q1:isC s (rowE blaC s e) 44 with
  | true =>
   have q2:=isC_lt q1;rw[q1,if_pos rfl]at hp;refine goW ?_;refine step_ruleO (sx_plI h8 rfl) (goW ?_);rw[wr64 (by omega) (by omega),show ((rowE blaC s e:Nat):Int)+1=((rowE blaC s e+1:Nat):Int) by omega];refine r_plI h8 rfl rfl λS10 h10 k10=>?_;refine goW ?_;exact⟨g,⟨rowE blaC s e+1,m2,acc++[t],o7,zs,h10,TVs.kp k10 _ _ tv8,k10.trans k8,by omega,f4,by simp only[lA,lC,lN];omega,hp,by omega,by omega,rfl⟩,by omega⟩
  | false =>
   rw[q1,if_neg Bool.false_ne_true]at hp;refine goW ?_;refine call_rule (by rfl) (hm _ _ _ _ _ (K.must 93 h8) ?_);intro r S10 hp10;cases q3:isC s (rowE blaC s e) 93 with
   | true =>
    rw[q3,if_pos rfl]at hp10 hp;obtain⟨rfl,h10,k10⟩:=hp10;refine goW ?_;refine⟨_,rfl,?_⟩;rw[hp];refine⟨_,rfl,?_,Hs.init1 h10,k10.trans k8⟩;simp only[TV];exact⟨⟨none,0,some 0,true⟩,o7,zs,rfl,rfl,(h10.ok (R.length+1) (.gr 25 o7 zs) (by simp)).rd,TVs.kp k10 _ _ tv8⟩
   | false =>
    rw[q3,if_neg Bool.false_ne_true]at hp10 hp;have hp10:=(PanT.less (PanP.toT hp10 k8))
    rw[hp,errP_eq];obtain⟨id,i',n',rfl,w1,w2⟩:=hp10;exact⟨_,_,_,rfl,w1,w2⟩
end

theorem recP_bl {s:List UInt8}{f deep i n:Nat}{keys:List (List UInt8)}{kids:List PT}:recP s f deep (rowE blaC s i) n keys kids=recP s f deep i n keys kids:=by
 cases f with
 | zero=>rw[recP,recP]
 | succ f=>rw[recP,recP,rowE_idem]
theorem hs_mkmS {S:St}{R:List Rs}(h:Hs S R):Hs { S with nm:=S.nm+1,maps:=(S.nm,[])::S.maps } (R++[.mp S.nm []]):=by
 obtain⟨id,S',e,h'⟩:=hs_mkm (gt:=[]) (d:=some 0) (env:=[]) h;simp only[stepO,SR.done.injEq]at e;obtain⟨e1,rfl⟩:=e;have:[(0,Ent.val (AV.map S.nm))]=[(0,Ent.val (AV.map id))]:=e1;have:S.nm=id:=by simpa using this
 rw[<-this]at h';exact h'
theorem mup_kp {gt:GT}{d:Option Nat}{env env':Env}{S S':St}{ek:EqK}{m k x:DOpd}(h:stepO gt d env S (.mup ek m k x)=.done env' S'):Kp S' S:=by
 simp only[stepO,cond_eq_ite]at h
 (repeat' split at h)<;>first | (simp only[SR.done.injEq]at h;obtain⟨_,rfl⟩:=h;exact⟨rfl,rfl⟩) | (cases h)
theorem r_mupK {gt:GT}{d:Option Nat}{env:Env}{S:St}{R:List Rs}{m k x:DOpd}{id:Nat}{l:List (List UInt8×Int)}{s:List UInt8}{v:Int}(hR:Hs S R)(i:Nat)(hi:R[i]? = some (.mp id (mpE l)))(hm:opd env m=some (.map id))(hk:opd env k=some (.str s))(hx:opd env x=some (.int .i64 v)) :
  ∃S',stepO gt d env S (.mup .str m k x)=.done (putV d .undef env) S'/\(Hs S' (R.set i (.mp id (mpE (putS s v l))))/\Kp S' S):=by
 obtain⟨S',h1,h2⟩:=r_mupS (gt:=gt) (d:=d) hR i hi hm hk hx;exact⟨S',h1,h2,mup_kp h1⟩
def rcP (s:List UInt8)(f deep i n:Nat):PR:=if isC s (rowE blaC s (i+1)) 125=true then .ok (.mk 7 [] [] []) (rowE blaC s (i+1)+1) n else recP s f deep (i+1) n [] []
section
variable {gt:GT}{C:CallT}
abbrev E_rc (pid deep id:Nat)(o1 o2:SI)(keys:List (List UInt8))(xs:List AV):Env:=[(1,.val (.int .i64 deep)),(2,.box [.ptr pid 0]),(4,.box [.int .i64 0,.str [],nil1,nil4]),(5,.box [.int .i64 7,.str [],.sl 1 o1 (strs keys),.sl 4 o2 xs]),(6,.val (.map id))]
abbrev R_rc (id:Nat)(o1 o2:SI)(keys:List (List UInt8))(xs:List AV):List Rs:=[Rs.mp id (mpE (ones keys)),Rs.gr 9 o1 (strs keys),Rs.gr 25 o2 xs]
theorem get_rc0 {a:Rs}{R:List Rs}{x y z:Rs}:(a::(R++[x,y,z]))[R.length+1]? = some x:=by simp
theorem get_rc1 {a:Rs}{R:List Rs}{x y z:Rs}:(a::(R++[x,y,z]))[R.length+2]? = some y:=by
 rw[List.getElem?_cons_succ,List.getElem?_append_right (Nat.le_succ _)];show [x,y,z][R.length+1-R.length]? = _;rw[Nat.add_sub_cancel_left];rfl
theorem get_rc2 {a:Rs}{R:List Rs}{x y z:Rs}:(a::(R++[x,y,z]))[R.length+3]? = some z:=by
 rw[List.getElem?_cons_succ,List.getElem?_append_right (by omega),Nat.add_sub_cancel_left];rfl
theorem set_rc0 {a:Rs}{R:List Rs}{x y z w:Rs}:(a::(R++[x,y,z])).set (R.length+1) w=a::(R++[w,y,z]):=by
 rw[List.set_cons_succ,List.set_append_right _ _ (nR _),Nat.sub_self];rfl
theorem set_rc1 {a:Rs}{R:List Rs}{x y z w:Rs}:(a::(R++[x,y,z])).set (R.length+2) w=a::(R++[x,w,z]):=by
 rw[List.set_cons_succ,List.set_append_right _ _ (Nat.le_succ _)];show a::(R++[x,y,z].set (R.length+1-R.length) w)=_;rw[Nat.add_sub_cancel_left];rfl
theorem set_rc2 {a:Rs}{R:List Rs}{x y z w:Rs}:(a::(R++[x,y,z])).set (R.length+3) w=a::(R++[x,y,w]):=by
 rw[List.set_cons_succ,List.set_append_right _ _ (by omega),Nat.add_sub_cancel_left];rfl
theorem record_wp (hm:MonoC C){s:List UInt8}(K:RdCs C s){f:Nat}(hT:∀g,g<f->TreeC C s g){S:St}{R:List Rs}{pid i n deep:Nat}(h:Hs S (plB pid s i n::R))(hi:isC s i 123=true)(hn:n<=4096)(hd:deep<=64)(hf:2*(s.length-(i+1))+2<=f) :
  wpF gt C F94 [.agg [.ptr pid 0],.int .i64 deep] S (RdT pid s R S (rcP s f deep i n)):=by
 have hlt:=isC_lt hi;have hl:=K.len;have hM:=hs_mkmS h;have kM:Kp { S with nm:=S.nm+1,maps:=(S.nm,[])::S.maps } S:=⟨rfl,rfl⟩
 refine⟨rfl,?_⟩;refine goW ?_;have hM:Hs { S with nm:=S.nm+1,maps:=(S.nm,[])::S.maps } (plB pid s i n::(R++[Rs.mp S.nm []])):=hM;generalize S.nm=id at hM ⊢;refine call_rule (by rfl) (hm _ _ _ _ _ (K.must 123 hM) ?_);rw[hi];rintro r S1 ⟨rfl,h1,k1⟩;have k1:=Kp.trans k1 kM;refine goW ?_;refine call_rule (by rfl) (hm _ _ _ _ _ (K.bla h1 (by omega)) ?_);rintro r S2 ⟨rfl,h2,k2⟩;have k2:=k2.trans k1;have b1:=rowE_ge (p:=blaC) (s:=s) (i:=i+1);have b2:=rowE_le (p:=blaC) (s:=s) (i:=i+1) (by omega);refine goW ?_;refine call_rule (by rfl) (hm _ _ _ _ _ (K.is 125 h2) ?_);rintro r S3 ⟨rfl,rfl⟩;refine goW ?_;unfold rcP;cases hc:isC s (rowE blaC s (i+1)) 125 with
 | true =>
  have b3:=isC_lt hc;refine goW ?_;refine step_ruleO (sx_plI h2 rfl) (goW ?_);rw[wr64 (by omega) (by omega),show ((rowE blaC s (i+1):Nat):Int)+1=((rowE blaC s (i+1)+1:Nat):Int) by omega];refine r_plI h2 rfl rfl λS3 h3 k3=>?_;refine goW ?_;refine⟨_,rfl,?_⟩;simp only[if_true];exact⟨_,rfl,TV.leaf rfl rfl rfl,Hs.init1 h3,k3.trans k2⟩
 | false =>
  simp only[Bool.false_eq_true,if_false];refine goW ?_;have hA:Hs S3 (plB pid s (rowE blaC s (i+1)) n::(R++R_rc id ⟨none,0,some 0,true⟩ ⟨none,0,some 0,true⟩ [] [])):=by
   have:=(h2.addNil 9 true).addNil 25 true;simpa[R_rc,mpE,ones,strs] using this
  have hB:recP s f deep (i+1) n [] []=recP s f deep (rowE blaC s (i+1)) n [] []:=recP_bl.symm;generalize recP s f deep (i+1) n [] []=res at hB ⊢;refine loop_rule hm (α:=Nat) (λg env S'=>∃j m keys kids o1 o2 xs,Hs S' (plB pid s j m::(R++R_rc id o1 o2 keys xs))/\TVs S' kids xs/\Kp S' S/\j<=s.length/\m<=4096/\keys.length<=m/\kids.length<=m/\res=recP s g deep j m keys kids/\2*(s.length-j)+2<=g/\g<=f/\env=E_rc pid deep id o1 o2 keys xs) (λg=>g) ?_ (a:=f) ⟨_,n,[],[],⟨none,0,some 0,true⟩,⟨none,0,some 0,true⟩,[],hA,(by simp only[TVs]),k2,b2,hn,Nat.zero_le _,Nat.zero_le _,hB,by omega,nR _,rfl⟩;rintro g env S4 ⟨j,m,keys,kids,o1,o2,xs,h4,tv4,k4,hj,hm2,ha,ha2,hp,hg,hgf,rfl⟩;cases g with
  | zero=>omega
  | succ g =>
  have c1:=rowE_ge (p:=blaC) (s:=s) (i:=j);have c2:=rowE_le (p:=blaC) (s:=s) hj;have hxl:=TVs.len kids xs tv4;rw[recP]at hp;refine goW ?_;refine call_rule (by rfl) (hm _ _ _ _ _ (K.bla h4 hj) ?_);rintro r S5 ⟨rfl,h5,k5⟩;have tv5:=TVs.kp k5 _ _ tv4;have k5:=k5.trans k4;generalize rowE blaC s j=a at hp h5 c1 c2;refine goW ?_;refine step_ruleO (sx_plI h5 rfl) (goW ?_);refine call_rule (by rfl) (hm _ _ _ _ _ (K.is 34 h5) ?_);rintro r S6 ⟨rfl,rfl⟩;refine goW ?_;cases q1:isC s a 34 with
  | false =>
   rw[q1,if_neg Bool.false_ne_true]at hp;refine goW ?_;refine call_rule (by rfl) (hm _ _ _ _ _ (K.bad h5) ?_);intro r S10 hp10;have hp10:=(PanT.less (PanP.toT hp10 k5))
   rw[hp,errP_eq];obtain⟨id,i',n',rfl,w1,w2⟩:=hp10;exact⟨_,_,_,rfl,w1,w2⟩
  | true =>
  rw[q1,if_pos rfl]at hp;refine goW ?_;refine call_rule (by rfl) (hm _ _ _ _ _ (K.quo h5 c2) ?_);intro r S7 hp7;cases e7:quoB (s.drop a) with
  | bad u w =>
   rw[e7]at hp7 hp;have hp:res=.bad (a+u) w:=hp;have hp7:=(PanT.less hp7).tr k5;rw[hp];obtain⟨id,i',n',rfl,w1,w2⟩:=hp7;exact⟨_,_,_,rfl,w1,w2⟩
  | ok key u =>
  rw[e7]at hp7 hp;obtain⟨rfl,h7,k7⟩:=hp7;obtain⟨u1,u2⟩:=(quoOK s).1 a key u e7;have tv7:=TVs.kp k7 _ _ tv5;have k7:=k7.trans k5;refine goW ?_;refine step_ruleO (sx_lkpS h7 (R.length+1) get_rc0 rfl rfl) ?_;by_cases hs:key∈keys
  ·obtain⟨jj,hjj⟩:=posS_ones hs;rw[hjj];have hp:res=.bad a 15:=by rw[hp];exact if_pos hs
   refine goW ?_;rw[show wr .i64 ((1:Int)+1)=2 from rfl];refine st_runP (r_mupK h7 (R.length+1) get_rc0 rfl rfl rfl) trivial ?_;rintro S8 ⟨h8,k8⟩;rw[set_rc0]at h8;refine goW ?_;refine step_ruleO (sx_lkpS h8 (R.length+1) get_rc0 rfl rfl) ?_;rw[show posS key (putS key 2 (ones keys)) 0=some (jj,2) by unfold putS;rw[hjj];exact posS_set hjj];refine goW ?_;refine call_rule (by rfl) (hm _ _ _ _ _ (K.fail a 15 h8) ?_);intro r S9 hp9;have hp9:=(PanT.less (PanP.toT hp9 (Kp.trans k8 k7)))
   rw[hp];obtain⟨id,i',n',rfl,w1,w2⟩:=hp9;exact⟨_,_,_,rfl,w1,w2⟩
  have hjj:=posS_no hs;rw[hjj];have hp:res=(if isC s (rowE blaC s (a+u)) 58=true then
     match treeP s g (deep+1) (rowE blaC s (rowE blaC s (a+u)+1)) m with
     |.bad a w=>.bad a w
     |.ok t e n' =>
      if isC s (rowE blaC s e) 44=true then recP s g deep (rowE blaC s e+1) n' (keys++[key]) (kids++[t])
      else if isC s (rowE blaC s e) 125=true then .ok (.mk 7 [] (keys++[key]) (kids++[t])) (rowE blaC s e+1) n'
      else errP s (rowE blaC s e)
    else errP s (rowE blaC s (a+u))):=by rw[hp];exact if_neg hs
  refine goW ?_;rw[show wr .i64 ((0:Int)+1)=1 from rfl];refine st_runP (r_mupK h7 (R.length+1) get_rc0 rfl rfl rfl) trivial ?_;rintro S8 ⟨h8,k8⟩;rw[set_rc0]at h8;refine goW ?_;refine step_ruleO (sx_lkpS h8 (R.length+1) get_rc0 rfl rfl) ?_;rw[show posS key (putS key 1 (ones keys)) 0=some (0+(ones keys).length,1) by unfold putS;rw[hjj];exact posS_app hjj];have hput:putS key 1 (ones keys)=ones (keys++[key]):=by unfold putS;rw[hjj];simp[ones]
  rw[hput]at h8;have tv8:=TVs.kp k8 _ _ tv7;have k8:=Kp.trans k8 k7;refine goW ?_;refine call_rule (by rfl) (hm _ _ _ _ _ (K.bla h8 u2) ?_);rintro r S9 ⟨rfl,h9,k9⟩;have tv9:=TVs.kp k9 _ _ tv8;have k9:=Kp.trans k9 k8;have d1:=rowE_ge (p:=blaC) (s:=s) (i:=a+u);have d2:=rowE_le (p:=blaC) (s:=s) (i:=a+u) u2;generalize rowE blaC s (a+u)=b at hp h9 d1 d2;refine goW ?_;refine call_rule (by rfl) (hm _ _ _ _ _ (K.must 58 h9) ?_);intro r S10 hp10;cases q3:isC s b 58 with
  | false =>
   rw[q3,if_neg Bool.false_ne_true]at hp10 hp;have hp10:=(PanT.less (PanP.toT hp10 k9))
   rw[hp,errP_eq];obtain⟨id,i',n',rfl,w1,w2⟩:=hp10;exact⟨_,_,_,rfl,w1,w2⟩
  | true =>
  have q4:=isC_lt q3;rw[q3,if_pos rfl]at hp10 hp;obtain⟨rfl,h10,k10⟩:=hp10;have tv10:=TVs.kp k10 _ _ tv9;have k10:=Kp.trans k10 k9;refine goW ?_;refine call_rule (by rfl) (hm _ _ _ _ _ (K.bla h10 q4) ?_);rintro r S11 ⟨rfl,h11,k11⟩;have tv11:=TVs.kp k11 _ _ tv10;have k11:=Kp.trans k11 k10;have d3:=rowE_ge (p:=blaC) (s:=s) (i:=b+1);have d4:=rowE_le (p:=blaC) (s:=s) (i:=b+1) q4;generalize rowE blaC s (b+1)=z at hp h11 d3 d4;refine goW ?_;obtain⟨h12,hsrc⟩:=h11.bldT 9 1;have hsl:(strs keys).length<=4096:=by rw[strs_length];omega
  refine r_appK h12 (R.length+2) get_rc1 trivial rfl rfl (hsrc _ _ _) (by simp;omega) (by simp;omega) (by decide) (by decide) rfl ?_;intro o3 S13 h13 k13;rw[set_rc1]at h13;have tv13:=TVs.kp (S':=S13) (S:=S11) k13 _ _ tv11;have k13:Kp S13 S:=Kp.trans (S':=S11) k13 k11;have hk2:strs keys++(List.replicate 1 (AV.str [])).set 0 (AV.str key)=strs (keys++[key]):=by simp[strs]
  rw[hk2]at h13 ⊢;refine goW ?_;rw[wr64 (by omega) (by omega),show (deep:Int)+1=((deep+1:Nat):Int) by omega];refine call_ruleD (by rfl) (hm _ _ _ _ _ (hT g (by omega) h13 d4 hm2 (by omega) (by omega)) ?_);intro r S14 hp14;cases e14:treeP s g (deep+1) z m with
  | bad a w =>
   rw[e14]at hp14 hp;have hp:res=.bad a w:=hp;have hp14:=(PanT.less hp14).tr k13;obtain⟨id,i',n',rfl,q1,q2⟩:=hp14;rw[hp];exact⟨_,_,_,rfl,q1,q2⟩
  | ok t e m2 =>
  rw[e14]at hp14 hp;have hp:res=if isC s (rowE blaC s e) 44=true then recP s g deep (rowE blaC s e+1) m2 (keys++[key]) (kids++[t]) else if isC s (rowE blaC s e) 125=true then .ok (.mk 7 [] (keys++[key]) (kids++[t])) (rowE blaC s e+1) m2 else errP s (rowE blaC s e):=hp
  obtain⟨v,rfl,tvv,h14,k14⟩:=hp14;have tv14:=TVs.kp k14 _ _ tv13;have k14:=Kp.trans k14 k13;have fi:=(reads_fine (quoOK s) K.num (by decide) g).1 (deep+1) z m d4 (by omega);rw[e14]at fi;obtain⟨f1,f2,f3,f4,f5⟩:=fi;obtain⟨o5,o6,x5,ev⟩:=tvv.agg;generalize hy:strs t.keys=y5 at ev;generalize t.k=tk at ev;generalize t.s=ts at ev;subst ev;refine goW ?_;have hxy:xs.length<=4096:=by omega
  refine r_appDK h14 (R.length+3) get_rc2 (by trivial) rfl rfl rfl (by simp;omega) (by simp;omega) (by decide) (by decide) rfl ?_;intro o7 S15 h15 k15;rw[set_rc2]at h15;have tv15:=TVs.kp k15 _ _ (TVs.snoc kids xs tv14 tvv);have k15:Kp S15 S:=Kp.trans k15 k14;have hz2:xs++(List.replicate 1 (AV.agg [AV.int IntKind.i64 0,AV.str [],AV.sl 1 { tok:=none,off:=0,cap:=some 0,isNil:=true } [],AV.sl 4 { tok:=none,off:=0,cap:=some 0,isNil:=true } []])).set 0 (AV.agg [AV.int IntKind.i64 tk,AV.str ts,AV.sl 1 o5 y5,AV.sl 4 o6 x5])=xs++[AV.agg [.int .i64 tk,.str ts,.sl 1 o5 y5,.sl 4 o6 x5]]:=rfl;rw[hz2]at h15;generalize hz:xs++[AV.agg [.int .i64 tk,.str ts,.sl 1 o5 y5,.sl 4 o6 x5]]=zs at hz2 h15 tv15;refine goW ?_;rw[hz2];have d5:=rowE_ge (p:=blaC) (s:=s) (i:=e);have d6:=rowE_le (p:=blaC) (s:=s) (i:=e) (by omega);refine call_rule (by rfl) (hm _ _ _ _ _ (K.bla h15 f2) ?_);rintro r S16 ⟨rfl,h16,k16⟩;have tv16:=TVs.kp k16 _ _ tv15;have k16:=k16.trans k15;refine goW ?_;refine call_rule (by rfl) (hm _ _ _ _ _ (K.is 44 h16) ?_);rintro r S17 ⟨rfl,rfl⟩;refine goW ?_;cases w1:isC s (rowE blaC s e) 44 with
  | true =>
   have w2:=isC_lt w1;rw[w1,if_pos rfl]at hp;refine goW ?_;refine step_ruleO (sx_plI h16 rfl) (goW ?_);rw[wr64 (by omega) (by omega),show ((rowE blaC s e:Nat):Int)+1=((rowE blaC s e+1:Nat):Int) by omega];refine r_plI h16 rfl rfl λS18 h18 k18=>?_;refine goW ?_;exact⟨g,⟨rowE blaC s e+1,m2,keys++[key],kids++[t],o3,o7,zs,h18,TVs.kp k18 _ _ tv16,k18.trans k16,by omega,f4,by simp only[lA,lC,lN];omega,by simp only[lA,lC,lN];omega,hp,by omega,by omega,rfl⟩,by omega⟩
  | false =>
   rw[w1,if_neg Bool.false_ne_true]at hp;refine goW ?_;refine call_rule (by rfl) (hm _ _ _ _ _ (K.must 125 h16) ?_);intro r S18 hp18;cases w3:isC s (rowE blaC s e) 125 with
   | true =>
    rw[w3,if_pos rfl]at hp18 hp;obtain⟨rfl,h18,k18⟩:=hp18;refine goW ?_;refine⟨_,rfl,?_⟩;rw[hp];refine⟨_,rfl,?_,Hs.init1 h18,k18.trans k16⟩;simp only[TV];exact⟨o3,o7,zs,rfl,(h18.ok (R.length+2) _ get_rc1).rd,(h18.ok (R.length+3) _ get_rc2).rd,TVs.kp k18 _ _ tv16⟩
   | false =>
    rw[w3,if_neg Bool.false_ne_true]at hp18 hp;have hp18:=(PanT.less (PanP.toT hp18 k16))
    rw[hp,errP_eq];obtain⟨id,i',n',rfl,w4,w5⟩:=hp18;exact⟨_,_,_,rfl,w4,w5⟩
end

theorem isC_of {s:List UInt8}{i c:Nat}{b:UInt8}(h:s[i]? = some b):(isC s i c=true)=(b.toNat=c):=by
 unfold isC;rw[h];simp only;rw[beq_dec,eq_iff_iff,beq_iff_eq];omega
def scaQ (s:List UInt8)(deep i n:Nat):PR:=match scaR s i with
 |.ok k t e=>nodP deep i n (.ok (.mk k t [] []) e (n+1))
 |.bad a w=>.bad a w
theorem scaQ_eq {s:List UInt8}(hnn:∀t:List UInt8,0<=(normB t).2){deep i n:Nat}{c:UInt8}(hc:s[i]? = some c):scaQ s deep i n=scaP s deep i n c:=by
 unfold scaQ scaR scaP;rw[hc];simp only;by_cases h1:(digC c || Nat.beq c.toNat 45)=true
 ·rw[if_pos h1,if_pos h1];by_cases h2:(normB (midP s i (rowE numC s i))).2=0
  ·rw[if_pos h2,if_pos h2]
  ·rw[if_neg h2,if_neg h2];simp only;rw[Int.toNat_of_nonneg (hnn _)]
 ·rw[if_neg h1,if_neg h1];by_cases h2:letC c=true
  ·rw[if_pos h2,if_pos h2];by_cases h3:midP s i (rowE letC s i)=w4null
   ·rw[if_pos h3,if_pos h3]
   ·rw[if_neg h3,if_neg h3];by_cases h4:midP s i (rowE letC s i)=w4true\/midP s i (rowE letC s i)=w5false
    ·rw[if_pos h4,if_pos h4]
    ·rw[if_neg h4,if_neg h4];rfl
  ·rw[if_neg h2,if_neg h2];rfl
def quoQ (s:List UInt8)(i n:Nat):PR:=match quoB (s.drop i) with |.ok t k=>.ok (.mk 4 t [] []) (i+k) (n+1) |.bad a w=>.bad (i+a) w
theorem treeP_eq {s:List UInt8}(hnn:∀t:List UInt8,0<=(normB t).2){f deep i n:Nat}(hi:i<=s.length):treeP s (f+1) deep i n =
  if isC s i 34=true then nodP deep i n (quoQ s i n) else if isC s i 91=true then nodP deep i n (lisP s f deep i (n+1)) else if isC s i 123=true then nodP deep i n (rcP s f deep i (n+1))
  else if isC s i 64=true then (if timeB (midP s (i+1) (rowE timC s (i+1)))=true then nodP deep i n (.ok (.mk 5 (midP s (i+1) (rowE timC s (i+1))) [] []) (rowE timC s (i+1)) (n+1)) else .bad i 20) else scaQ s deep i n:=by
 rw[treeP];cases hc:s[i]? with
 | none =>
  have e:∀c,¬isC s i c=true:=λc h=>by unfold isC at h;rw[hc]at h;cases h
  rw[if_neg (e _),if_neg (e _),if_neg (e _),if_neg (e _)];unfold scaQ scaR;rw[hc];rfl
 | some c =>
  simp only[isC_of hc];rw[scaQ_eq hnn hc];rfl
def ListC (C:CallT)(s:List UInt8)(f:Nat):Prop:=∀{S:St} {R:List Rs} {pid i n deep:Nat},Hs S (plB pid s i n::R)->isC s i 91=true->n<=4096->deep<=64->2*(s.length-(i+1))+2<=f->C 93 [.agg [.ptr pid 0],.int .i64 deep] S (RdT pid s R S (lisP s f deep i n))
def RecC (C:CallT)(s:List UInt8)(f:Nat):Prop:=∀{S:St} {R:List Rs} {pid i n deep:Nat},Hs S (plB pid s i n::R)->isC s i 123=true->n<=4096->deep<=64->2*(s.length-(i+1))+2<=f->C 94 [.agg [.ptr pid 0],.int .i64 deep] S (RdT pid s R S (rcP s f deep i n))
section
variable {gt:GT}{C:CallT}
theorem tree_wp (hm:MonoC C){s:List UInt8}(K:RdCs C s){f:Nat}(hL:ListC C s f)(hR:RecC C s f){S:St}{R:List Rs}{pid i n deep:Nat}(h:Hs S (plB pid s i n::R))(hi:i<=s.length)(hn:n<=4096)(hd:deep<=65)(hf:2*(s.length-i)+1<=f+1) :
  wpF gt C F54 [.agg [.ptr pid 0],.int .i64 deep] S (RdT pid s R S (treeP s (f+1) deep i n)):=by
 have hl:=K.len;have hp:=treeP_eq (s:=s) K.num (f:=f) (deep:=deep) (n:=n) hi;generalize treeP s (f+1) deep i n=res at hp ⊢;refine⟨rfl,?_⟩;refine goW ?_;refine step_ruleO (sx_plI h rfl) (goW ?_);refine call_rule (by rfl) (hm _ _ _ _ _ (K.is 34 h) ?_);rintro r S1 ⟨rfl,rfl⟩;refine goW ?_;cases q1:isC s i 34 with
 | true =>
  rw[q1,if_pos rfl]at hp;refine goW ?_;refine call_rule (by rfl) (hm _ _ _ _ _ (K.node h hn) ?_);intro r S2 hp2;by_cases n1:64<deep
  ·rw[if_pos n1]at hp2;have hp:res=.bad i 4:=by rw[hp];unfold nodP;rw[if_pos n1]
   have hp2:=PanT.tr hp2 (Kp.refl _);obtain⟨id,i',n',rfl,w1,w2⟩:=hp2;rw[hp];exact⟨_,_,_,rfl,w1,w2⟩
  by_cases n2:4096<n+1
  ·rw[if_neg n1,if_pos n2]at hp2;have hp:res=.bad i 3:=by rw[hp];unfold nodP;rw[if_neg n1,if_pos n2]
   have hp2:=PanT.tr hp2 (Kp.refl _);obtain⟨id,i',n',rfl,w1,w2⟩:=hp2;rw[hp];exact⟨_,_,_,rfl,w1,w2⟩
  rw[if_neg n1,if_neg n2]at hp2;obtain⟨rfl,h2,k2⟩:=hp2;have k2:=Kp.trans k2 (Kp.refl _);have hp:res=quoQ s i n:=by rw[hp];unfold nodP;rw[if_neg n1,if_neg n2]
  refine goW ?_;refine call_rule (by rfl) (hm _ _ _ _ _ (K.quo h2 hi) ?_);intro r S3 hp3;rw[hp];unfold quoQ;cases e3:quoB (s.drop i) with
  | bad a w =>
   rw[e3]at hp3;have hp3:=PanT.tr hp3 k2;obtain⟨id,i',n',rfl,w1,w2⟩:=hp3;exact⟨_,_,_,rfl,w1,w2⟩
  | ok t k =>
   rw[e3]at hp3;obtain⟨rfl,h3,k3⟩:=hp3;refine goW ?_;exact⟨_,rfl,_,rfl,TV.leaf rfl rfl rfl,h3,k3.trans k2⟩
 | false =>
 rw[q1,if_neg Bool.false_ne_true]at hp;refine goW ?_;refine call_rule (by rfl) (hm _ _ _ _ _ (K.is 91 h) ?_);rintro r S1 ⟨rfl,rfl⟩;refine goW ?_;cases q2:isC s i 91 with
 | true =>
  have q9:=isC_lt q2;rw[q2,if_pos rfl]at hp;refine goW ?_;refine call_rule (by rfl) (hm _ _ _ _ _ (K.node h hn) ?_);intro r S2 hp2;by_cases n1:64<deep
  ·rw[if_pos n1]at hp2;have hp:res=.bad i 4:=by rw[hp];unfold nodP;rw[if_pos n1]
   have hp2:=PanT.tr hp2 (Kp.refl _);obtain⟨id,i',n',rfl,w1,w2⟩:=hp2;rw[hp];exact⟨_,_,_,rfl,w1,w2⟩
  by_cases n2:4096<n+1
  ·rw[if_neg n1,if_pos n2]at hp2;have hp:res=.bad i 3:=by rw[hp];unfold nodP;rw[if_neg n1,if_pos n2]
   have hp2:=PanT.tr hp2 (Kp.refl _);obtain⟨id,i',n',rfl,w1,w2⟩:=hp2;rw[hp];exact⟨_,_,_,rfl,w1,w2⟩
  rw[if_neg n1,if_neg n2]at hp2;obtain⟨rfl,h2,k2⟩:=hp2;have k2:=Kp.trans k2 (Kp.refl _);have hp:res=lisP s f deep i (n+1):=by rw[hp];unfold nodP;rw[if_neg n1,if_neg n2]
  refine goW ?_;refine call_rule (by rfl) (hm _ _ _ _ _ (hL h2 q2 (by omega) (by omega) (by omega)) ?_);intro r S3 hp3;rw[hp];cases e3:lisP s f deep i (n+1) with
  | bad a w =>
   rw[e3]at hp3;have hp3:=PanT.tr hp3 k2;obtain⟨id,i',n',rfl,w1,w2⟩:=hp3;exact⟨_,_,_,rfl,w1,w2⟩
  | ok t e m =>
   rw[e3]at hp3;obtain⟨v,rfl,tv,h3,k3⟩:=hp3;obtain⟨o5,o6,x5,ev⟩:=tv.agg;generalize hy:strs t.keys=y5 at ev;generalize t.k=tk at ev;generalize t.s=ts at ev;subst ev;refine goW ?_;exact⟨_,rfl,_,rfl,tv,h3,k3.trans k2⟩
 | false =>
 rw[q2,if_neg Bool.false_ne_true]at hp;refine goW ?_;refine call_rule (by rfl) (hm _ _ _ _ _ (K.is 123 h) ?_);rintro r S1 ⟨rfl,rfl⟩;refine goW ?_;cases q3:isC s i 123 with
 | true =>
  have q9:=isC_lt q3;rw[q3,if_pos rfl]at hp;refine goW ?_;refine call_rule (by rfl) (hm _ _ _ _ _ (K.node h hn) ?_);intro r S2 hp2;by_cases n1:64<deep
  ·rw[if_pos n1]at hp2;have hp:res=.bad i 4:=by rw[hp];unfold nodP;rw[if_pos n1]
   have hp2:=PanT.tr hp2 (Kp.refl _);obtain⟨id,i',n',rfl,w1,w2⟩:=hp2;rw[hp];exact⟨_,_,_,rfl,w1,w2⟩
  by_cases n2:4096<n+1
  ·rw[if_neg n1,if_pos n2]at hp2;have hp:res=.bad i 3:=by rw[hp];unfold nodP;rw[if_neg n1,if_pos n2]
   have hp2:=PanT.tr hp2 (Kp.refl _);obtain⟨id,i',n',rfl,w1,w2⟩:=hp2;rw[hp];exact⟨_,_,_,rfl,w1,w2⟩
  rw[if_neg n1,if_neg n2]at hp2;obtain⟨rfl,h2,k2⟩:=hp2;have k2:=Kp.trans k2 (Kp.refl _);have hp:res=rcP s f deep i (n+1):=by rw[hp];unfold nodP;rw[if_neg n1,if_neg n2]
  refine goW ?_;refine call_rule (by rfl) (hm _ _ _ _ _ (hR h2 q3 (by omega) (by omega) (by omega)) ?_);intro r S3 hp3;rw[hp];cases e3:rcP s f deep i (n+1) with
  | bad a w =>
   rw[e3]at hp3;have hp3:=PanT.tr hp3 k2;obtain⟨id,i',n',rfl,w1,w2⟩:=hp3;exact⟨_,_,_,rfl,w1,w2⟩
  | ok t e m =>
   rw[e3]at hp3;obtain⟨v,rfl,tv,h3,k3⟩:=hp3;obtain⟨o5,o6,x5,ev⟩:=tv.agg;generalize hy:strs t.keys=y5 at ev;generalize t.k=tk at ev;generalize t.s=ts at ev;subst ev;refine goW ?_;exact⟨_,rfl,_,rfl,tv,h3,k3.trans k2⟩
 | false =>
 rw[q3,if_neg Bool.false_ne_true]at hp;refine goW ?_;refine call_rule (by rfl) (hm _ _ _ _ _ (K.is 64 h) ?_);rintro r S1 ⟨rfl,rfl⟩;refine goW ?_;cases q4:isC s i 64 with
 | true =>
  have q9:=isC_lt q4;rw[q4,if_pos rfl]at hp;refine goW ?_;refine step_ruleO (sx_plI h rfl) (goW ?_);rw[wr64 (by omega) (by omega),show (i:Int)+1=((i+1:Nat):Int) by omega];refine r_plI h rfl rfl λS5 h5 k5=>?_;refine goW ?_;refine call_rule (by rfl) (hm _ _ _ _ _ (K.rowT h5 (by omega)) ?_);rintro r S6 ⟨rfl,h6,k6⟩;have k6:=k6.trans k5;have hml:(midP s (i+1) (rowE timC s (i+1))).length<=16777216:=by unfold midP;rw[lT,lD];omega
  generalize midP s (i+1) (rowE timC s (i+1))=w at hml hp;generalize rowE timC s (i+1)=e at hp h6;refine goW ?_;refine call_pf hm (by rfl) (K.time w hml) (goW ?_);cases q5:timeB w with
  | false =>
   rw[q5,if_neg Bool.false_ne_true]at hp;refine goW ?_;refine call_rule (by rfl) (hm _ _ _ _ _ (K.fail i 20 h6) ?_);intro r S9 hp9;have hp9:=PanP.toT hp9 k6;rw[hp];obtain⟨id,i',n',rfl,w1,w2⟩:=hp9;exact⟨_,_,_,rfl,w1,w2⟩
  | true =>
   rw[q5,if_pos rfl]at hp;refine goW ?_;refine call_rule (by rfl) (hm _ _ _ _ _ (K.node h6 hn) ?_);intro r S2 hp2;by_cases n1:64<deep
   ·rw[if_pos n1]at hp2;have hp:res=.bad i 4:=by rw[hp];unfold nodP;rw[if_pos n1]
    have hp2:=PanT.tr hp2 k6;obtain⟨id,i',n',rfl,w1,w2⟩:=hp2;rw[hp];exact⟨_,_,_,rfl,w1,w2⟩
   by_cases n2:4096<n+1
   ·rw[if_neg n1,if_pos n2]at hp2;have hp:res=.bad i 3:=by rw[hp];unfold nodP;rw[if_neg n1,if_pos n2]
    have hp2:=PanT.tr hp2 k6;obtain⟨id,i',n',rfl,w1,w2⟩:=hp2;rw[hp];exact⟨_,_,_,rfl,w1,w2⟩
   rw[if_neg n1,if_neg n2]at hp2;obtain⟨rfl,h2,k2⟩:=hp2;have k2:=Kp.trans k2 k6;have hp:res=.ok (.mk 5 w [] []) e (n+1):=by rw[hp];unfold nodP;rw[if_neg n1,if_neg n2]
   refine goW ?_;refine⟨_,rfl,?_⟩;rw[hp];exact⟨_,rfl,TV.leaf rfl rfl rfl,h2,k2⟩
 | false =>
 rw[q4,if_neg Bool.false_ne_true]at hp;refine goW ?_;refine call_rule (by rfl) (hm _ _ _ _ _ (K.sca h hi) ?_);intro r S7 hp3;unfold scaQ at hp;unfold ScaP at hp3;cases e3:scaR s i with
 | bad a w =>
  rw[e3]at hp3 hp;have hp:res=.bad a w:=hp;obtain⟨id,i',n',rfl,w1,w2⟩:=hp3;rw[hp];exact⟨_,_,_,rfl,w1,w2⟩
 | ok tk ts e =>
  rw[e3]at hp3 hp;have hp:res=nodP deep i n (.ok (.mk tk ts [] []) e (n+1)):=hp;obtain⟨v,rfl,tv,h4,k4⟩:=hp3;obtain⟨o5,o6,x5,ev⟩:=tv.agg;simp only[PT.k,PT.s,PT.keys]at ev;generalize hy:strs []=y5 at ev;subst ev;refine goW ?_;refine call_rule (by rfl) (hm _ _ _ _ _ (K.node h4 hn) ?_);intro r S2 hp2;by_cases n1:64<deep
  ·rw[if_pos n1]at hp2;have hp:res=.bad i 4:=by rw[hp];unfold nodP;rw[if_pos n1]
   have hp2:=PanT.tr hp2 k4;obtain⟨id,i',n',rfl,w1,w2⟩:=hp2;rw[hp];exact⟨_,_,_,rfl,w1,w2⟩
  by_cases n2:4096<n+1
  ·rw[if_neg n1,if_pos n2]at hp2;have hp:res=.bad i 3:=by rw[hp];unfold nodP;rw[if_neg n1,if_pos n2]
   have hp2:=PanT.tr hp2 k4;obtain⟨id,i',n',rfl,w1,w2⟩:=hp2;rw[hp];exact⟨_,_,_,rfl,w1,w2⟩
  rw[if_neg n1,if_neg n2]at hp2;obtain⟨rfl,h2,k2⟩:=hp2;have k2:=Kp.trans k2 k4;have hp:res=.ok (.mk tk ts [] []) e (n+1):=by rw[hp];unfold nodP;rw[if_neg n1,if_neg n2]
  refine goW ?_;refine⟨_,rfl,?_⟩;rw[hp];exact⟨_,rfl,TV.kp (S:=S7) ⟨k2.1.trans k4.1.symm,k2.2.trans k4.2.symm⟩ _ _ tv,h2,k2⟩
end

def parseP (s:List UInt8):PR:=match treeP s (2*s.length+2) 1 (rowE blaC s 0) 0 with
 |.bad a w=>.bad a w
 |.ok t e m=>if rowE blaC s e<s.length then .bad (rowE blaC s e) 13 else .ok t (rowE blaC s e) m
abbrev zTc:List AV:=[.int .i64 0,.str [],nil1,nil4]
abbrev R_pa (sid tid:Nat)(s:List UInt8)(cs:List AV):List Rs:=[Rs.bx sid 9 [.str s],Rs.bx tid 25 cs]
theorem get2_0 {a:Rs}{R:List Rs}{x y:Rs}:(a::(R++[x,y]))[R.length+1]? = some x:=by simp
theorem get2_1 {a:Rs}{R:List Rs}{x y:Rs}:(a::(R++[x,y]))[R.length+2]? = some y:=by
 rw[List.getElem?_cons_succ,List.getElem?_append_right (Nat.le_succ _)];show [x,y][R.length+1-R.length]? = _;rw[Nat.add_sub_cancel_left];rfl
theorem set2_1 {a:Rs}{R:List Rs}{x y w:Rs}:(a::(R++[x,y])).set (R.length+2) w=a::(R++[x,w]):=by
 rw[List.set_cons_succ,List.set_append_right _ _ (Nat.le_succ _)];show a::(R++[x,y].set (R.length+1-R.length) w)=_;rw[Nat.add_sub_cancel_left];rfl
def ParP (pid sid tid:Nat)(s:List UInt8)(R:List Rs)(S:St):Res->St->Prop:=λr S'=>match parseP s with
 |.ok t e m=>∃cs,r=.ret (.tup [])/\TV S' t (.agg cs)/\Hs S' (plB pid s e m::(R++R_pa sid tid s cs))/\Kp S' S
 |.bad a w=>PanT pid s R a w.toNat S r S'
section
variable {gt:GT}{C:CallT}
theorem sx_stB {d:Option Nat}{env:Env}{S:St}{a x:DOpd}{id off sz:Nat}{v:AV}{ty:TypeId}{cs:List AV}(hb:lk S.boxes id=some (some (ty,cs)))(ha:loc env a=some (.hp id off))(hx:opd env x=some v)
  (h1:(Nat.beq v.cells.length sz && v.cells.all ok1)=true) (h2:Nat.ble (off+v.cells.length) cs.length=true) :
  stepO gt d env S (.st sz a x)=.done (putV d .undef env) { S with boxes:=(id,some (ty,splice cs off v.cells))::S.boxes }:=by
 simp only[stepO,ha,hx,h1,stL,hb,h2,cond_true]
theorem r_stB {d:Option Nat}{env:Env}{S:St}{R:List Rs}{K:Env->St->Prop}{Q:Ex->Env->St->Prop}{a x:DOpd}{id off sz i:Nat}{v:AV}{ty:TypeId}{cs cs':List AV}(h:Hs S R)(hi:R[i]? = some (.bx id ty cs))(ha:loc env a=some (.hp id off))(hx:opd env x=some v)
  (h1:(Nat.beq v.cells.length sz && v.cells.all ok1)=true) (h2:Nat.ble (off+v.cells.length) cs.length=true) (h3:splice cs off v.cells=cs')
  (k:∀S',Hs S' (R.set i (.bx id ty cs'))->Kp S' S->K (putV d .undef env) S'):afterS C d env S K Q (stepI gt ⟨d,.st sz a x,none⟩ env S):=by
 subst h3;exact step_ruleO (sx_stB (h.ok i _ hi).2 ha hx h1 h2) (k _ (h.boxTo hi _) ⟨rfl,rfl⟩)
theorem parse1_wp (hm:MonoC C){s:List UInt8}(K:RdCs C s)(hT:∀f,TreeC C s f){S:St}{R:List Rs}{pid sid tid:Nat}(h:Hs S (plB pid s 0 0::(R++R_pa sid tid s zTc))) :
  wpF gt C F52 [.ptr pid 0,.ptr tid 0,.ptr sid 0] S (ParP pid sid tid s R S):=by
 have hl:=K.len;have b1:=rowE_le (p:=blaC) (s:=s) (i:=0) (Nat.zero_le _);unfold ParP;have hp:parseP s=match treeP s (2*s.length+2) 1 (rowE blaC s 0) 0 with
  |.bad a w=>.bad a w
  |.ok t e m=>if rowE blaC s e<s.length then .bad (rowE blaC s e) 13 else .ok t (rowE blaC s e) m:=rfl
 generalize parseP s=res at hp ⊢;refine⟨rfl,?_⟩;refine goW ?_;refine call_rule (by rfl) (hm _ _ _ _ _ (K.bla h (Nat.zero_le _)) ?_);rintro r S2 ⟨rfl,h2,k2⟩;refine goW ?_;refine call_rule (by rfl) (hm _ _ _ _ _ (hT (2*s.length+2) (deep:=1) h2 b1 (by omega) (by omega) (by omega)) ?_);intro r S3 hp3;have fi:=(reads_fine (quoOK s) K.num (by decide) (2*s.length+2)).1 1 (rowE blaC s 0) 0 b1 (by omega);cases e3:treeP s (2*s.length+2) 1 (rowE blaC s 0) 0 with
 | bad a w =>
  rw[e3]at hp3 hp;have hp:res=.bad a w:=hp;have hp3:=(PanT.less hp3).tr k2;obtain⟨id,i',n',rfl,w1,w2⟩:=hp3;rw[hp];exact⟨_,_,_,rfl,w1,w2⟩
 | ok t e m =>
 rw[e3]at hp3 hp fi;have hp:res=if rowE blaC s e<s.length then .bad (rowE blaC s e) 13 else .ok t (rowE blaC s e) m:=hp
 obtain⟨f1,f2,f3,f4,f5⟩:=fi;obtain⟨v,rfl,tv,h3,k3⟩:=hp3;have k3:=k3.trans k2;obtain⟨o5,o6,x5,ev⟩:=tv.agg;generalize hy:strs t.keys=y5 at ev;generalize t.k=tk at ev;generalize t.s=ts at ev;subst ev;refine goW ?_;refine r_stB h3 get2_1 rfl rfl rfl rfl rfl λS4 h4 k4=>?_;rw[set2_1]at h4;have tv4:=TV.kp k4 _ _ tv;have k4:=k4.trans k3;refine goW ?_;refine call_rule (by rfl) (hm _ _ _ _ _ (K.bla h4 f2) ?_);rintro r S5 ⟨rfl,h5,k5⟩;have tv5:=TV.kp k5 _ _ tv4;have k5:=k5.trans k4;refine goW ?_;refine step_ruleDO rfl rfl (sx_plI h5 rfl) (goW ?_);refine step_ruleDO rfl rfl (sx_ldBs (h5.ok (R.length+1) _ get2_0).2 rfl rfl) (goW ?_);by_cases z:rowE blaC s e<s.length
 ·rw[dT (show ((rowE blaC s e:Nat):Int)<(s.length:Nat) by omega)];rw[if_pos z]at hp;refine goW ?_;refine call_rule (by rfl) (hm _ _ _ _ _ (K.bad h5) ?_);intro r S6 hp6;have hp6:=PanT.less (PanP.toT hp6 k5);unfold errA errW at hp6;rw[if_pos z,if_pos z]at hp6;obtain⟨id,i',n',rfl,w1,w2⟩:=hp6;rw[hp];exact⟨_,_,_,rfl,w1,w2⟩
 ·rw[dF (show ¬((rowE blaC s e:Nat):Int)<(s.length:Nat) by omega)];rw[if_neg z]at hp;refine goW ?_;refine⟨_,rfl,?_⟩;rw[hp];exact⟨_,rfl,tv5,h5,k5⟩
theorem rec_ret {S:St}{eid:Nat}{Q:UM->St->Prop}(k:Q .ret S):wpDG gt C F87 [.ptr eid 0] .ret S Q:=by
 refine⟨rfl,?_⟩;show wpDG.go gt C F87 [.ptr eid 0] S Q .nilif .ret;unfold wpDG.go;refine goW ?_;exact k
theorem rec_pan {S:St}{R:List Rs}{eid id i:Nat}(h:Hs S R)(hi:R[i]? = some (.bx eid 32 [.nilif])){Q:UM->St->Prop}(k:∀S',Hs S' (R.set i (.bx eid 32 [.ifc 105 (.ptr id 0)]))->Kp S' S->Q .rcv S'):wpDG gt C F87 [.ptr eid 0] (.pan (.ifc 105 (.ptr id 0))) S Q:=by
 refine⟨rfl,?_⟩;show wpDG.go gt C F87 [.ptr eid 0] S Q (.ifc 105 (.ptr id 0)) .rcv;unfold wpDG.go;refine goW ?_;refine r_stB h hi rfl rfl rfl rfl rfl λS4 h4 k4=>?_;refine goW ?_;exact k S4 h4 k4
end

theorem Hs.perm {S:St}{R R':List Rs}(h:Hs S R)(p:R.Perm R'):Hs S R':=by
 have hp:R.Pairwise RsDj:=List.pairwise_iff_getElem.2 λi j hi hj hij=>h.dj i j _ _ (by omega) (gE hi) (gE hj);have hq:=(p.pairwise_iff (λh=>RsDj.symm h)).1 hp;refine⟨h.wf,λi r hi=>?_,λi j r s hij hi hj=>?_⟩
 ·obtain⟨k,hk⟩:=List.mem_iff_getElem?.1 (p.mem_iff.2 (List.mem_iff_getElem?.2 ⟨i,hi⟩));exact h.ok k r hk
 ·obtain⟨ki,rfl⟩:=List.getElem?_eq_some_iff.1 hi;obtain⟨kj,rfl⟩:=List.getElem?_eq_some_iff.1 hj;rcases Nat.lt_or_gt_of_ne hij with q | q
  ·exact List.pairwise_iff_getElem.1 hq i j ki kj q
  ·exact RsDj.symm (List.pairwise_iff_getElem.1 hq j i kj ki q)
theorem Hs.ini {S:St}{X Y:List Rs}(h:Hs S (X++Y)):Hs S X:=h.less (λx=>x) (λ_ _ _ _ e=>e) λj hj=>by rw[List.getElem?_append_left hj]
def fullP (s:List UInt8):PR:=if badI s 0<0 then parseP s else .bad (badI s 0).toNat 10
def ReaP (sid tid:Nat)(s:List UInt8)(R:List Rs)(S:St):Res->St->Prop:=λr S'=>match fullP s with
 |.ok t _ _=>∃cs,r=.ret .nilif/\TV S' t (.agg cs)/\Hs S' (R++R_pa sid tid s cs)/\Kp S' S
 |.bad a w=>∃id,r=.ret (.ifc 105 (.ptr id 0))/\Hs S' (R++[wrB id a w.toNat])/\Kp S' S
theorem perm_in {R X:List Rs}{e p:Rs}:(((R++X)++[e])++[p]).Perm (p::((R++[e])++X)):=by
 refine List.perm_append_comm.trans (List.Perm.cons p ?_);rw[aA,aA];exact List.Perm.append_left R List.perm_append_comm
theorem perm_out {R X:List Rs}{e p:Rs}:(p::((R++[e])++X)).Perm ((R++X)++[e,p]):=by
 refine perm_in.symm.trans ?_;rw[aA (R++X)];exact List.Perm.refl _
theorem get_e {a e:Rs}{R X:List Rs}:(a::((R++[e])++X))[R.length+1]? = some e:=by simp
theorem set_e {a e e':Rs}{R X:List Rs}:(a::((R++[e])++X)).set (R.length+1) e'=a::((R++[e'])++X):=by
 rw[List.set_cons_succ,aA,List.set_append_right _ _ (nR _),Nat.sub_self,aA];rfl
section
variable {gt:GT}{C:CallT}
theorem res_cell {S:St}{env:Env}{eid:Nat}{ty:TypeId}{v:AV}(he:lk env 4=some (.val (.ptr eid 0)))(hb:lk S.boxes eid=some (some (ty,[v])))(hv:mkv false [v]=some v):result gt env S [.cell 4 false 1]=some v:=by
 have hr:resV gt env S (.cell 4 false 1)=some v:=by
  have hl:loc env (.t 4)=some (.hp eid 0):=by simp only[loc,he];rfl
  simp only[resV,hl,ldL,ldC,hb];exact hv
 simp only[result,resVs,hr]
theorem read_wp (hm:MonoC C)(U:CallU){s:List UInt8}(hl:s.length<=65536){S:St}{R:List Rs}{sid tid:Nat}(h:Hs S (R++R_pa sid tid s zTc))
  (hbad:PF C 86 [.str s] (.int .i64 (badI s 0)))
  (hwr:∀{S:St} {R:List Rs} (at_ why:Nat),Hs S R->C 85 [.int .i64 at_,.int .i64 why] S λr S'=>∃id,r=.ret (.ptr id 0)/\Hs S' (R++[wrB id at_ why])/\S'.mv=S.mv/\S'.dl=S.dl)
  (hpar:∀{S:St} {R:List Rs} {pid:Nat},Hs S (plB pid s 0 0::(R++R_pa sid tid s zTc))->C 52 [.ptr pid 0,.ptr tid 0,.ptr sid 0] S (ParP pid sid tid s R S))
  (hret:∀{S:St} {eid:Nat} {Q:UM->St->Prop},Q .ret S->U 87 [.ptr eid 0] .ret S Q)
  (hpan:∀{S:St} {R:List Rs} {eid id i:Nat} {Q:UM->St->Prop},Hs S R->R[i]? = some (.bx eid 32 [.nilif])->(∀S',Hs S' (R.set i (.bx eid 32 [.ifc 105 (.ptr id 0)]))->Kp S' S->Q .rcv S')->U 87 [.ptr eid 0] (.pan (.ifc 105 (.ptr id 0))) S Q) :
  wpDD gt C U F51 [.str s,.fn 52 [] [.ptr tid 0,.ptr sid 0]] S (ReaP sid tid s R S):=by
 have hE:=h.newBox 32 [.nilif];have kE:Kp { S with nb:=S.nb+1,boxes:=(S.nb,some (32,[.nilif]))::S.boxes } S:=⟨rfl,rfl⟩
 have hf:fullP s=if badI s 0<0 then parseP s else .bad (badI s 0).toNat 10:=rfl
 unfold ReaP;generalize fullP s=res at hf ⊢;generalize badI s 0=bi at hf hbad;refine⟨rfl,?_⟩;refine goW ?_;rw[dF (show ¬(65536:Int)<s.length by omega)];refine goW ?_;refine call_pf hm (by rfl) hbad (goW ?_);by_cases c:bi<0
 case neg =>
  obtain⟨b,rfl⟩:=Int.eq_ofNat_of_zero_le (show 0<=bi by omega);rw[dT (show (b:Int) ≥ 0 by omega)];rw[if_neg c,Int.toNat_natCast]at hf;refine goW ?_;refine call_rule (by rfl) (hm _ _ _ _ _ (hwr b 10 hE) ?_);rintro r S2 ⟨id,rfl,h2,k2⟩;have k2:Kp S2 S:=Kp.trans k2 kE;refine goW ?_;have gE:(((R++R_pa sid tid s zTc)++[Rs.bx S.nb 32 [.nilif]])++[wrB id b 10])[R.length+2]? = some (Rs.bx S.nb 32 [.nilif]):=by simp
  refine r_stB h2 gE rfl rfl rfl rfl rfl λS3 h3 k3=>?_;refine goW ?_;have hres:result gt [(4,Ent.val (AV.ptr S.nb 0))] S3 (F51).res=some (.ifc 105 (.ptr id 0)):=res_cell rfl (h3.ok (R.length+2) (Rs.bx S.nb 32 [.ifc 105 (.ptr id 0)]) (by rw[List.getElem?_set_self (by simp)];rfl)).2 rfl;refine⟨_,hres,?_⟩;rw[hf];refine⟨id,rfl,?_,k3.trans k2⟩;have h4:=h3.perm (R':=(R++[wrB id b 10])++(R_pa sid tid s zTc++[Rs.bx S.nb 32 [.ifc 105 (.ptr id 0)]])) ?_
  ·exact Hs.ini h4
  ·have e1:(((R++R_pa sid tid s zTc)++[Rs.bx S.nb 32 [.nilif]])++[wrB id b 10]).set (R.length+2) (Rs.bx S.nb 32 [.ifc 105 (.ptr id 0)])=R++((R_pa sid tid s zTc++[Rs.bx S.nb 32 [.ifc 105 (.ptr id 0)]])++[wrB id b 10]):=by
    rw[aA,aA,List.set_append_right _ _ (by omega),show R.length+2-R.length=2 by omega];rfl
   refine(List.Perm.of_eq e1).trans ?_;rw[aA R];exact List.Perm.append_left R List.perm_append_comm
 rw[dF (show ¬bi ≥ 0 by omega)];rw[if_pos c]at hf;refine goW ?_;have hP:=(hE.newBox 88 [.str s,.int .i64 0,.int .i64 0]).perm perm_in;have kP:=Kp.trans (S':={ S with nb:=S.nb+1,boxes:=(S.nb,some (32,[.nilif]))::S.boxes }) (S'':={ S with nb:=S.nb+2,boxes:=(S.nb+1,some (88,[.str s,.int .i64 0,.int .i64 0]))::(S.nb,some (32,[.nilif]))::S.boxes }) ⟨rfl,rfl⟩ kE;refine call_rule (by rfl) (hm _ _ _ _ _ (hpar hP) ?_);intro r S2 hp2;unfold ParP at hp2;rw[<-hf]at hp2;cases res with
 | ok t e m =>
  obtain⟨cs,rfl,tv,h2,k2⟩:=hp2;have k2:=Kp.trans k2 kP;refine goW ?_;refine r_stB h2 get_e rfl rfl rfl rfl rfl λS3 h3 k3=>?_;rw[set_e]at h3;have tv3:=TV.kp k3 _ _ tv;have k3:=k3.trans k2;refine goW ?_;refine hret ?_;refine⟨_,res_cell rfl (h3.ok (R.length+1) _ get_e).2 rfl,?_⟩;exact⟨cs,rfl,tv3,Hs.ini (h3.perm perm_out),k3⟩
 | bad a w =>
  obtain⟨id,i',n',rfl,h2,k2⟩:=hp2;have k2:=Kp.trans k2 kP;refine goW ?_;refine hpan h2 get_e λS3 h3 k3=>?_;rw[set_e]at h3;refine⟨_,res_cell rfl (h3.ok (R.length+1) _ get_e).2 rfl,?_⟩;exact⟨id,rfl,Hs.ini (h3.perm perm_out),k3.trans k2⟩
end

def PaP (s:List UInt8)(R:List Rs)(S:St):Res->St->Prop:=λr S'=>match fullP s with
 |.ok t _ _=>∃v,r=.ret (.tup [v,.nilif])/\TV S' t v/\Hs S' R/\Kp S' S
 |.bad a w=>∃v id,r=.ret (.tup [v,.ifc 105 (.ptr id 0)])/\TV S' (.mk 0 [] [] []) v/\Hs S' (R++[wrB id a w.toNat])/\Kp S' S
section
variable {gt:GT}{C:CallT}
theorem parseT_wp (hm:MonoC C){s:List UInt8}{S:St}{R:List Rs}(h:Hs S R)
  (hrd:∀{S:St} {R:List Rs} {sid tid:Nat},Hs S (R++R_pa sid tid s zTc)->C 51 [.str s,.fn 52 [] [.ptr tid 0,.ptr sid 0]] S (ReaP sid tid s R S)) :
  wpF gt C F19 [.str s] S (PaP s R S):=by
 have h1:=(h.newBox 9 [.str s]).newBox 25 zTc;have h2:Hs { S with nb:=S.nb+2,boxes:=(S.nb+1,some (25,zTc))::(S.nb,some (9,[.str s]))::S.boxes } (R++R_pa S.nb (S.nb+1) s zTc):=by
  have:=h1;rw[aA]at this;exact this
 have hb:=(h2.ok R.length (Rs.bx S.nb 9 [.str s]) (by simp)).2;have k2:Kp { S with nb:=S.nb+2,boxes:=(S.nb+1,some (25,zTc))::(S.nb,some (9,[.str s]))::S.boxes } S:=⟨rfl,rfl⟩
 refine⟨rfl,?_⟩;refine goW ?_;refine step_ruleO (sx_ldBs hb rfl rfl) (goW ?_);refine call_rule (by rfl) (hm _ _ _ _ _ (hrd h2) ?_);intro r S3 hp3;unfold ReaP at hp3;unfold PaP;cases e:fullP s with
 | ok t j m =>
  rw[e]at hp3;obtain⟨cs,rfl,tv,h3,k3⟩:=hp3;obtain⟨o5,o6,x5,ev⟩:=tv.agg;generalize hy:strs t.keys=y5 at ev;generalize t.k=tk at ev;generalize t.s=ts at ev;simp only[AV.agg.injEq]at ev;subst ev;refine goW ?_;have hc:=(h3.ok (R.length+1) (Rs.bx (S.nb+1) 25 [.int .i64 tk,.str ts,.sl 1 o5 y5,.sl 4 o6 x5]) (by rw[List.getElem?_append_right (Nat.le_succ _)];show (R_pa _ _ _ _)[R.length+1-R.length]? = _;rw[Nat.add_sub_cancel_left];rfl)).2;refine step_ruleO (sx_ldBs hc rfl rfl) (goW ?_);exact⟨_,rfl,_,rfl,tv,Hs.ini h3,k3.trans k2⟩
 | bad a w =>
  rw[e]at hp3;obtain⟨id,rfl,h3,k3⟩:=hp3;refine goW ?_;exact⟨_,rfl,_,id,rfl,TV.leaf rfl rfl rfl,h3,k3.trans k2⟩
end

section
variable {gt:GT}{C:CallT}
end

section
variable {gt:GT}{C:CallT}
section
variable {d:Option Nat}{env:Env}{S:St}{R:List Rs}{rid i n:Nat}{a w:Int}{s:List UInt8}{x:DOpd}
end
end

section
variable {gt:GT}{C:CallT}
end

section
variable {gt:GT}{C:CallT}
end

section
variable {gt:GT}{C:CallT}
end

section
variable {gt:GT}{C:CallT}
end

theorem letC_iff {c:UInt8}:letC c=true↔(97<=c.toNat/\c.toNat<=122)\/(65<=c.toNat/\c.toNat<=90):=by simp[letC,Nat.ble_eq]
theorem digC_iff {c:UInt8}:digC c=true↔48<=c.toNat/\c.toNat<=57:=by simp[digC,Nat.ble_eq]
theorem digX_iff {c:UInt8}:(digC c || Nat.beq c.toNat 45)=true↔(48<=c.toNat/\c.toNat<=57)\/c.toNat=45:=by rw[Bool.or_eq_true,digC_iff,Nat.beq_eq]
section
variable {gt:GT}{C:CallT}
end

section
variable {gt:GT}{C:CallT}
end

section
variable {gt:GT}{C:CallT}
end

section
variable {gt:GT}{C:CallT}
end

section
variable {gt:GT}{C:CallT}
end

section
variable {gt:GT}{C:CallT}
end

section
variable {gt:GT}{C:CallT}
end

section
variable {gt:GT}{C:CallT}
end

theorem parseP_fine {s:List UInt8}(hnn:∀t:List UInt8,0<=(normB t).2):match parseP s with |.ok t _ _=>t.ok |.bad _ w=>0<w:=by
 have b1:=rowE_le (p:=blaC) (s:=s) (i:=0) (Nat.zero_le _);have fi:=(reads_fine (quoOK s) hnn (by decide) (2*s.length+2)).1 1 (rowE blaC s 0) 0 b1 (by omega);unfold parseP;cases e:treeP s (2*s.length+2) 1 (rowE blaC s 0) 0 with
 | bad a w=>rw[e]at fi;exact fi.2
 | ok t j m =>
  rw[e]at fi;simp only;by_cases z:rowE blaC s j<s.length
  ·rw[if_pos z];exact(by decide:(0:Int)<13)
  ·rw[if_neg z];exact fi.2.2.2.2
theorem fullP_fine {s:List UInt8}(hnn:∀t:List UInt8,0<=(normB t).2):match fullP s with |.ok t _ _=>t.ok |.bad _ w=>0<w:=by
 unfold fullP;by_cases c:badI s 0<0
 ·rw[if_pos c];exact parseP_fine hnn
 ·rw[if_neg c];exact(by decide:(0:Int)<10)
section
variable {gt:GT}{C:CallT}
end
end Go.Dn

namespace Go.Proofs.YthgidapmofcloaaGreatDoor.Fn
open Go.ChangeShapes Go.WideShapes Go.ChangeAt Go.RowKit Go.Dn
theorem ai {f : FuncId} {fn : Func} {n : Note} {F : DF} {us : List AV} {S : St} {Q : Res → St → Prop} (hf : Tryz.prog.funcs[f]? = some fn) (hp : prepF Tryz.prog n fn = some F) (hw : wpF gtT A F us S Q) (hn : (fn.name == "runtime.NumGoroutine") = false := by kernel_rfl) : A f us S Q := AC_intro Tryz.checked.mixed hf hn hp hw
theorem norm_nn (t:List UInt8):0<=(normB t).2:=by
 unfold normB;by_cases h:(splitB t).2=0
 ·rw[if_pos h];unfold joinB
  (repeat' split)<;>simp
 ·rw[if_neg h];unfold splitB;cases cutB t with
  | none=>show (0:Int)<=12;decide
  | some q =>
   obtain⟨neg,w,p,e⟩:=q;simp only;by_cases h1:1000<t.length
   ·rw[if_pos h1];show (0:Int)<=2;decide
   ·rw[if_neg h1];cases expB e with
    | none=>show (0:Int)<=5;decide
    | some x=>simp only;split<;>exact Int.le_refl 0
theorem valueH (b:UInt8):PF A 234 [.int .u8 b.toNat] (.int .i64 (hexV b)) :=
 pf Tryz.func234 (by kernel_rfl) C1.F234_ok (s1 trivial) value_wp
theorem hexU4 (s:List UInt8):PF A 217 [.str s,.int .i64 4] (.int .i64 (numH s 4 0)) :=
 pf Tryz.func217 (by kernel_rfl) C1.F217_ok (s2 trivial trivial) (hex_wp (k:=4) hm valueH (by decide))
theorem hpU (s p:List UInt8)(h:s.length<4611686018427387904):PF A 185 [.str s,.str p] (.bool (decide (p <+: s))) :=
 pf Tryz.func185 (by kernel_rfl) C1.F185_ok (s2 trivial trivial) (hasPreW_wp hm (pf Tryz.func204 (by kernel_rfl) C1.F204_ok (s2 trivial trivial) (hasPreU_wp (by omega))))
theorem pairU (c:UInt8)(r:List UInt8)(h:r.length<4611686018427387903):PF A 199 [.str (c::r)] (encEsc (pairB r)) :=
 pf Tryz.func199 (by kernel_rfl) C1.F199_ok (s1 trivial) (pair_wp hm hexU4 (λs h=>hpU s _ h) h)
theorem escapedU (s:List UInt8)(h:s.length<4611686018427387904):PF A 174 [.str s] (encEsc (escU s)) :=
 pf Tryz.func174 (by kernel_rfl) C1.F174_ok (s1 trivial) (escaped_wp hm pairU h)
theorem putU {S:St}{R:List Rs}{i c:Nat}{o:SI}{xs:List AV}(hR:Hs S R)(hi:R[i]? = some (.gr 5 o xs))(hc:c<1114112)(hl:xs.length<1099511627776) :
  A 175 [.sl 1 o xs,.int .i64 c] S λr S'=>∃o',r=.ret (.sl 1 o' (xs++ofBytes (encC c)))/\Hs S' (R.set i (.gr 5 o' (xs++ofBytes (encC c))))/\S'.mv=S.mv/\S'.dl=S.dl :=
 ai Tryz.func175 C1.F175_ok (putU_wp hm hR hi hc hl λS id k ty hk hb =>
  ai Tryz.func200 C1.F200_ok (tail_wp hb hc hk))
theorem wrongU {S:St}{R:List Rs}(at_ why:Nat)(hR:Hs S R):A 85 [.int .i64 at_,.int .i64 why] S λr S'=>∃id,r=.ret (.ptr id 0)/\Hs S' (R++[wrB id at_ why])/\S'.mv=S.mv/\S'.dl=S.dl :=
 ai Tryz.func85 C1.F85_ok (wrong_wp hR)
theorem quotedU {S:St}{R:List Rs}(s:List UInt8)(hR:Hs S R)(hl:s.length<=16777216):A 139 [.str s] S (QPost (quoB s) R S) :=
 ai Tryz.func139 C1.F139_ok (quoted_wp hm hR hl escapedU putU wrongU)
theorem digT (b:UInt8):PF A 141 [.int .u8 b.toNat] (.bool (digC b)) :=
 pf Tryz.func141 (by kernel_rfl) C1.F141_ok (s1 trivial) digT_wp
theorem letT (b:UInt8):PF A 142 [.int .u8 b.toNat] (.bool (letC b)) :=
 pf Tryz.func142 (by kernel_rfl) C1.F142_ok (s1 trivial) letT_wp
theorem blaT (b:UInt8):PF A 89 [.int .u8 b.toNat] (.bool (blaC b)) :=
 pf Tryz.func89 (by kernel_rfl) C1.F89_ok (s1 trivial) blaT_wp
theorem inNum (b:UInt8):PF A 96 [.int .u8 b.toNat] (.bool (numC b)) :=
 pf Tryz.func96 (by kernel_rfl) C1.F96_ok (s1 trivial) (inNum_wp hm digT letT)
theorem timT (b:UInt8):PF A 95 [.int .u8 b.toNat] (.bool (timC b)) :=
 pf Tryz.func95 (by kernel_rfl) C1.F95_ok (s1 trivial) (timT_wp hm inNum)
theorem isP {s:List UInt8}{S:St}{R:List Rs}{pid i n:Nat}(c:Nat)(h:Hs S (plB pid s i n::R)):A 90 [.ptr pid 0,.int .u8 c] S λr S'=>r=.ret (.bool (isC s i c))/\S'=S :=
 ai Tryz.func90 C1.F90_ok (is_wp h)
theorem failP {S:St}{R:List Rs}(at_ why:Nat)(h:Hs S R):A 97 [.int .i64 at_,.int .i64 why] S (PanP R at_ why S) :=
 ai Tryz.func97 C1.F97_ok (fail_wp hm h wrongU)
theorem badP {s:List UInt8}{S:St}{R:List Rs}{pid i n:Nat}(h:Hs S (plB pid s i n::R)):A 55 [.ptr pid 0] S (PanP (plB pid s i n::R) (errA s i) (errW s i) S) :=
 ai Tryz.func55 C1.F55_ok (badP_wp hm h failP)
theorem rowP {s:List UInt8}(hl:s.length<=16777216){f:FuncId}{p:UInt8->Bool}(hp:∀b:UInt8,PF A f [.int .u8 b.toNat] (.bool (p b))){S:St}{R:List Rs}{pid i n:Nat}(h:Hs S (plB pid s i n::R))(hi:i<=s.length):A 88 [.ptr pid 0,.fn f [] []] S (RowP p pid s i n R S) :=
 ai Tryz.func88 C1.F88_ok (rowT_wp hm h hi hl hp)
theorem rdCs {s:List UInt8}(hl:s.length<=16777216):RdCs A s where
 bla h hi:=ai Tryz.func53 C1.F53_ok (blanks_wp hm h hi λh hi=>rowP hl blaT h hi)
 is c h:=isP c h
 bad h:=badP h
 must c h:=ai Tryz.func140 C1.F140_ok (must_wp hm h hl (λh=>isP _ h) λh=>badP h)
 node h hn:=ai Tryz.func91 C1.F91_ok (node_wp hm h hn failP)
 fail a w h:=failP a w h
 quo {S R pid i n} h hi:=ai Tryz.func92 C1.F92_ok (quotedP_wp hm h hi hl (λs h hs=>quotedU s h hs) (λt k e=>((quoOK s).1 i t k e).2) (λa w e=>((quoOK s).2 i a w hi e).1) failP)
 rowT h hi:=rowP hl timT h hi
 sca h hi:=ai Tryz.func98 C1.F98_ok (scalar_wp hm h hi hl digT letT (λh hi=>rowP hl inNum h hi) (λh hi=>rowP hl letT h hi) (λt h=>normal t (by omega)) norm_nn (λh=>badP h) failP)
 time t h:=Fn.time t (by omega)
 len:=hl
 num:=norm_nn
theorem treeC {s:List UInt8}(hl:s.length<=16777216):∀f,TreeC A s f:=by
 intro f
 induction f using Nat.strongRecOn with
 | _ f ih =>
  cases f with
  | zero=>intro S R pid i n deep _ _ _ _ h;omega
  | succ f =>
   intro S R pid i n deep h hi hn hd hf;exact ai Tryz.func54 C1.F54_ok (tree_wp hm (rdCs hl)
    (λh hi hn hd hf=>ai Tryz.func93 C1.F93_ok (list_wp hm (rdCs hl) (λg hg=>ih g (by omega)) h hi hn hd hf))
    (λh hi hn hd hf=>ai Tryz.func94 C1.F94_ok (record_wp hm (rdCs hl) (λg hg=>ih g (by omega)) h hi hn hd hf)) h hi hn hd hf)
theorem readT {s:List UInt8}(hl:s.length<=65536){S:St}{R:List Rs}{sid tid:Nat}(h:Hs S (R++R_pa sid tid s zTc)):A 51 [.str s,.fn 52 [] [.ptr tid 0,.ptr sid 0]] S (ReaP sid tid s R S) :=
 AC_introD Tryz.checked.mixed Tryz.func51 (by kernel_rfl) C1.F51_ok (read_wp hm (ACU Tryz.prog gtT) hl h (badU s (by omega)) wrongU
  (λh=>ai Tryz.func52 C1.F52_ok (parse1_wp hm (rdCs (by omega)) (treeC (by omega)) h))
  (λk=>ACU_introG Tryz.checked.mixed Tryz.func87 (by kernel_rfl) C1.F87_ok (rec_ret k))
  (λh hi k=>ACU_introG Tryz.checked.mixed Tryz.func87 (by kernel_rfl) C1.F87_ok (rec_pan h hi k)))
theorem parseT {s:List UInt8}(hl:s.length<=65536){S:St}{R:List Rs}(h:Hs S R):A 19 [.str s] S (PaP s R S) :=
 ai Tryz.func19 C1.F19_ok (parseT_wp hm h λh=>readT hl h)
theorem plainQ {S:St}{t u:PT}{v w:AV}(ht:t.ok)(hv:TV S t v)(hw:TV S u w):A 32 [v,w] S λr S'=>r=.ret (.bool (eqT t u))/\S'=S:=by
 refine AC_mono _ _ _ _ _ (AC_read (us:=[encT t,encT u]) (Φ:=λx=>x=.bool (eqT t u)) gtSta ?_ (λx hx=>by rw[hx];exact rfl) (AC_mono _ _ _ _ _ (plain t u ht St.init) λr S1 h=>⟨_,_,h.1,Sta.rdo _ trivial,rfl⟩)) ?_
 ·simp only[Rdos];exact⟨_,_,rfl,hv.rdo,_,_,rfl,hw.rdo,rfl⟩
 ·rintro r S' ⟨x,rfl,rfl,rfl⟩;exact⟨rfl,rfl⟩
end Go.Proofs.YthgidapmofcloaaGreatDoor.Fn

namespace Go.Dn
section
variable {α:Type}(le:α->α->Prop)
abbrev Srt (l:List α):Prop:=l.Pairwise le
variable {le}
theorem srt_app {x y:List α}:Srt le (x++y)↔Srt le x/\Srt le y/\∀u∈x,∀v∈y,le u v:=List.pairwise_append
theorem ends_le (tr:∀{a b c:α},le a b->le b c->le a c){x y:List α}(hx:Srt le x)(hy:Srt le y)(h:∀u v,x[x.length-1]? = some u->y[0]? = some v->le u v)(rf:∀a,le a a):∀u∈x,∀v∈y,le u v:=by
 intro u hu v hv;obtain⟨i,hi,rfl⟩:=List.mem_iff_getElem.1 hu;obtain⟨j,hj,rfl⟩:=List.mem_iff_getElem.1 hv;have h1:le x[i] (x[x.length-1]'(by omega)):=by
  rcases Nat.lt_or_ge i (x.length-1) with q | q
  ·exact List.pairwise_iff_getElem.1 hx i (x.length-1) hi (by omega) q
  ·have:i=x.length-1:=by omega
   simp only[this];exact rf _
 have h2:le (y[0]'(by omega)) y[j]:=by
  rcases Nat.eq_zero_or_pos j with q | q
  ·simp only[q];exact rf _
  ·exact List.pairwise_iff_getElem.1 hy 0 j (by omega) hj q
 exact tr (tr h1 (h _ _ (gE (by omega)) (gE (by omega)))) h2
theorem merge_ok {A B C D Z1 Z2:List α}(h1:Srt le Z1)(h2:Srt le Z2)(p1:Z1.Perm (A++C))(p2:Z2.Perm (B++D))(hAB:∀u∈A,∀v∈B,le u v)(hAD:∀u∈A,∀v∈D,le u v)(hCB:∀u∈C,∀v∈B,le u v)(hCD:∀u∈C,∀v∈D,le u v) :
  Srt le (Z1++Z2)/\(Z1++Z2).Perm ((A++B)++(C++D)):=by
 refine⟨srt_app.2 ⟨h1,h2,λu hu v hv=>?_⟩,?_⟩
 ·have hu:=p1.mem_iff.1 hu;have hv:=p2.mem_iff.1 hv;rcases List.mem_append.1 hu with hu | hu<;>rcases List.mem_append.1 hv with hv | hv
  ·exact hAB u hu v hv
  ·exact hAD u hu v hv
  ·exact hCB u hu v hv
  ·exact hCD u hu v hv
 ·refine(p1.append p2).trans ?_;rw[aA,aA];refine List.Perm.append_left A ?_;rw[<-aA,<-aA];exact List.Perm.append_right D List.perm_append_comm
def Blk (le:α->α->Prop)(n:Nat)(d:List α):Prop:=∀(i j:Nat) (hi:i<d.length) (hj:j<d.length),i<j->i / n=j / n->le d[i] d[j]
theorem Blk.nil {n:Nat}:Blk le n []:=λi j hi=>by simp at hi
theorem Blk.srt {n:Nat}{d:List α}(h:Blk le n d)(hn:d.length<=n):Srt le d :=
 List.pairwise_iff_getElem.2 λi j hi hj hij=>h i j hi hj hij (by rw[Nat.div_eq_of_lt (by omega),Nat.div_eq_of_lt (by omega)])
theorem Blk.take {n:Nat}{x y:List α}(h:Blk le n (x++y)):Blk le n x:=λi j hi hj hij e=>by
 have:=h i j (by rw[lA];omega) (by rw[lA];omega) hij e
 rwa [List.getElem_append_left hi,List.getElem_append_left hj]at this
theorem Blk.drop {n:Nat}{x y:List α}(h:Blk le n (x++y))(hn:0<n)(hx:x.length % n=0):Blk le n y:=λi j hi hj hij e=>by
 have:=h (x.length+i) (x.length+j) (by rw[lA];omega) (by rw[lA];omega) (by omega) (by
  obtain⟨k,hk⟩:=Nat.dvd_of_mod_eq_zero hx;rw[hk,Nat.mul_add_div hn,Nat.mul_add_div hn,e])
 rw[List.getElem_append_right (by omega),List.getElem_append_right (by omega)]at this;simpa only[Nat.add_sub_cancel_left] using this
theorem Blk.app {n:Nat}{x y:List α}(h:Blk le n x)(hn:0<n)(hx:x.length % n=0)(hy:Blk le n y):Blk le n (x++y):=λi j hi hj hij e=>by
 obtain⟨k,hk⟩:=Nat.dvd_of_mod_eq_zero hx;rcases Nat.lt_or_ge j x.length with q | q
 ·rw[List.getElem_append_left (by omega),List.getElem_append_left q];exact h i j (by omega) q hij e
 ·rcases Nat.lt_or_ge i x.length with q' | q'
  ·exfalso;have h1:i / n<k:=by rw[Nat.div_lt_iff_lt_mul hn,Nat.mul_comm];omega
   have h2:k<=j / n:=by rw[Nat.le_div_iff_mul_le hn,Nat.mul_comm];omega
   omega
  ·rw[List.getElem_append_right q',List.getElem_append_right q];rw[lA]at hi hj;refine hy _ _ (by omega) (by omega) (by omega) ?_;have e1:i=n*k+(i-x.length):=by omega
   have e2:j=n*k+(j-x.length):=by omega
   rw[e1,e2,Nat.mul_add_div hn,Nat.mul_add_div hn]at e;omega
theorem Blk.of {n:Nat}{d:List α}(h:Srt le d):Blk le n d:=λi j hi hj hij _=>List.pairwise_iff_getElem.1 h i j hi hj hij
end
end Go.Dn

namespace Go.Dn
open Go Go.RowKit
def ints (l:List Nat):List AV:=l.map λ(n:Nat)=>AV.int .i64 (n:Int)
theorem ints_len (l:List Nat):(ints l).length=l.length:=by simp[ints]
theorem ints_get {l:List Nat}{i n:Nat}(h:l[i]? = some n):(ints l)[i]? = some (.int .i64 (n:Int)):=by simp[ints,h]
theorem ints_el (l:List Nat):∀y∈ints l,El false 1 y:=λy hy=>by
 simp only[ints,List.mem_map]at hy;obtain⟨n,_,rfl⟩:=hy;exact⟨rfl,rfl⟩
theorem ints_set (l:List Nat)(i n:Nat):(ints l).set i (.int .i64 (n:Int))=ints (l.set i n):=by simp[ints,List.map_set]
def ArS (S:St)(R:List Rs)(ty:TypeId)(t b:Nat)(l:List Nat):Prop:=Hs S (R++[.bx b ty ((ints l).flatMap AV.cells++[]),.mk t t b])
abbrev slA (t n:Nat)(xs:List AV):AV:=.sl 1 ⟨some (t,t),0,some n,false⟩ xs
section
variable {S:St}{R:List Rs}{ty:TypeId}{t b:Nat}{l:List Nat}
theorem ArS.hi:(R++[Rs.bx b ty ((ints l).flatMap AV.cells++[]),Rs.mk t t b])[R.length]? = some (.bx b ty ((ints l).flatMap AV.cells++[])):=by simp
theorem ArS.hj:(R++[Rs.bx b ty ((ints l).flatMap AV.cells++[]),Rs.mk t t b])[R.length+1]? = some (.mk t t b):=by simp
theorem ArS.els (h:ArS S R ty t b l){n:Nat}{xs:List AV}(hx:xs.length=l.length):elems S false 1 ⟨some (t,t),0,some n,false⟩ xs=some (ints l):=by
 have:=arr_els h ArS.hi ArS.hj (ints_el l) (off:=0) (cap:=some n) (nl:=false) (xs:=xs) (by rw[ints_len];omega);rw[List.drop_zero,hx,List.take_of_length_le (by rw[ints_len];omega)]at this;exact this
theorem ArS.st (h:ArS S R ty t b l){gt:GT}{d:Option Nat}{env:Env}{a x:DOpd}{n:Nat}{xs:List AV}{k v:Nat}(hx:xs.length=l.length)(ha:loc env a=some (.el 1 ⟨some (t,t),0,some n,false⟩ xs k 0))(hv:opd env x=some (.int .i64 (v:Int)))(hk:k<l.length) :
  ∃S',stepO gt d env S (.st 1 a x)=.done (putV d .undef env) S'/\ArS S' R ty t b (l.set k v):=by
 obtain⟨S',h1,h2⟩:=arr_st h R.length ArS.hi ArS.hj (λy hy=>(ints_el l y hy).1) (gt:=gt) (d:=d) (env:=env) (a:=a) (x:=x) (xs:=xs) (so:=0) (k:=k) (off:=0) (sz:=1) (cap:=some n) (nl:=false) (v:=.int .i64 (v:Int)) (v':=.int .i64 (v:Int)) ha hv rfl (by omega) (by rw[ints_len];omega) (nR 1) (by
  have hc:(ints l)[0+k]'(by rw[ints_len];omega)=.int .i64 ((l[k]:Nat):Int):=by simp[ints]
  rw[hc];rfl)
 refine⟨S',h1,?_⟩;rw[Nat.zero_add,ints_set]at h2;unfold ArS;simpa using h2
end
theorem st_runPD {C:CallT}{gt:GT}{d:Option Nat}{op:DOp}{gd:Option (Nat×Bool)}{l:Option Nat}{env env':Env}{S:St}{P:St->Prop}{K:Env->St->Prop}{Q:Ex->Env->St->Prop}(h:∃S',stepO gt d env S op=.done env' S'/\P S')(hg:Gd env gd)(h0:isLoc op=false)(h1:conform l env op=true)(k:∀S',P S'->K env' S'):afterS C d env S K Q (stepD gt (⟨d,op,gd⟩,l) env S):=by
 obtain⟨S',h2,h3⟩:=h;exact st_anyD hg h0 h1 h2 (k S' h3)
theorem set_mid {α:Type}{P Q:List α}{x y:α}{n:Nat}(h:n=P.length):(P++(x::Q)).set n y=P++(y::Q):=by
 subst h;rw[List.set_append_right _ _ (nR _),Nat.sub_self];rfl
theorem get_mid {α:Type}{P Q:List α}{x:α}{n:Nat}(h:n=P.length):(P++(x::Q))[n]? = some x:=by
 subst h;rw[List.getElem?_append_right (nR _),Nat.sub_self];rfl
end Go.Dn
