/- The row of 'emendlaw3.TreeCompares': what is read, and that the call returns true. -/
import Derived.Test.YthgidapmofcloaaGreatDoorTie
import Derived.Test.YthgidapmofcloaaGreatDoorCards
import Derived.ProofKit
import Derived.LaidMore
import Derived.OpenShut
import Derived.Carry
import Derived.Stop.Joined
import Derived.Lay
import Derived.SevenTiedAt
import Derived.Deep.DeepHandedRow
import Derived.Deep.DeepWitnessRowRef
import Derived.Test.YthgidapmofcloaaGreatDoorPo
set_option linter.unusedSimpArgs false
set_option linter.unusedVariables false
namespace Go.Proofs.YthgidapmofcloaaGreatDoor.TreeCompares
open Go.ChangeShapes Go.WideShapes Go.ChangeAt Go.RowKit Go.Dn Go.Proofs.YthgidapmofcloaaGreatDoor.Fn
theorem laidOut:laidOutB Tryz.prog=true:=by kernel_rfl
theorem walk {W:World} (hI:Inv Tryz.prog gtT St.init (G0 W) W) {args:Array Value} {xs:List AV} {f:FuncId} (hac:A f xs St.init (Ret (.bool true))) (hx:Rl St.init (G0 W) W xs args.toList):Calls Tryz.prog f args W fun e W'=>e=.returned (.bool true)∧Below W.heap.size W W':=by
 refine Calls.mono (hac.2 (G0 W) W args.toList hI hx) fun e W' hp=>?_
 cases e with
 | returned v =>
  obtain⟨x,S',G',⟨y,hy,hr⟩,t,rv⟩:=hp
  cases hy
  simp only [Rdo] at hr
  subst hr
  refine⟨?_,below_of_ext t.ext⟩
  simp only [Rv] at rv
  rw [rv]
 | panicked chain =>
  obtain⟨x,S',G',u,hc,⟨y,hy,hr⟩,_⟩:=hp
  cases hy
 | outgrown=>exact hp.elim
theorem types:okTypes Tryz.prog [25,23,22,9,3,60,40]=true:=by kernel_rfl
theorem wantsT:Tryz.pinned.checked.prog.wantsStandIn 25=false:=by kernel_rfl
theorem isUb {H:Type}:IsUb (Rows.uptoBulk (H:=H)) Rows.uptoBulkAll where
 lit l:=by cases l<;>simp [Rows.uptoBulk]
 str s:=by simp [Rows.uptoBulk]
 nil:=by simp [Rows.uptoBulk]
 slice a b:=by simp [Rows.uptoBulk]
 agg a:=by simp [Rows.uptoBulk]
 none:=by simp [Rows.uptoBulkAll]
 cons d r:=by simp [Rows.uptoBulkAll]
set_option maxRecDepth 1000000 in
theorem entryT {H:Type} {enc:TypeId×Value→H} {W:World} {v:Value} {d:DataW H} {p:List MemPlace} {base:Nat} (hv:Value.okWide Tryz.prog W .any base 25 v) (h:DataW.Trod enc Tryz.prog W 0 (fun _=>true) true 25 v d p) :
  ∃n:PT,Rv St.init (G0 W) W (encT n) v∧bulkA (encT n)≤Rows.uptoBulk d:=by
 obtain⟨fuel,hf⟩:=h
 obtain⟨zs,hr,ht,hb⟩:=trod_avb isUb types fuel 25 _ _ (by decide) hf
 obtain⟨n,hn⟩:=av_tree ht
 refine⟨n,?_,?_⟩
 ·rw [←hn]
  obtain⟨vs,rfl,_⟩:=okWide_struct Tryz.underlying25 hv
  simp only [Rv]
  exact⟨_,rfl,hr⟩
 ·rw [←hn]
  have:sb Tryz.prog 25=1:=by unfold sb;rw [Tryz.underlying25]
  rw [this] at hb
  simpa only [bulkA] using hb
abbrev zeroTree:Value:=.agg #[.int .i64 0,.string .empty,.slice none 0 0,.slice none 0 0]
abbrev zeroData (H:Type):DataW H:=.agg [.lit (.int .i64 0),.lit (.string []),.nil,.nil]
abbrev zeros:Array Value:=#[zeroTree,zeroTree]
theorem reads (os:Os) {H:Type} (enc:TypeId×Value→H):∃places,DataW.whole enc Tryz.prog ((laidW os).forCall (fun _ _=>0) ⟨#[],zeros,[]⟩).memory Tryz.f6.params.toList Rows.treeComparesSpec.vars false zeros.toList 8=some ([zeroData H,zeroData H],[],places) :=
 ⟨[],by kernel_rfl⟩
set_option maxRecDepth 100000 in
theorem lifted (os:Os) (started:os.Started) (H:Type) (enc:TypeId×Value→H) (F:Stop.Interp) :
  ReturnsInHanded {} Tryz.checked os 6 .any ((Rows.OpenSpec.upto Rows.treeComparesSpec).preRow enc Tryz.prog Tryz.f6 Rows.treeComparesUptoRow.domain false Rows.treeComparesUptoRow.laid)
   (((Rows.OpenSpec.upto Rows.treeComparesSpec).at F).post enc Tryz.prog Tryz.f6 false true false false):=by
 obtain⟨places,hx⟩:=reads os enc
 refine returnsInHanded_of_row (C:=Tryz.checked) (s:=Rows.OpenSpec.upto Rows.treeComparesSpec) own started (by kernel_rfl) Tryz.func6
  (witness_row_atRef (enc:=enc) (C:=Tryz.checked) false (laidW os) zeros (laidW_os _) (by kernel_rfl) (by kernel_rfl) (by kernel_rfl)
   (OpenSpec.preRow_of_cond 8 hx (by kernel_rfl) (fun k hk=>by cases hk;kernel_rfl) (by kernel_rfl) (laidW_met os _))) ?_
 intro W base args ds gs before hval0 hW _ hcond _ hL _ _
 have hval:∀(j:Nat) t v,Tryz.f6.params[j]? = some t→args[j]? = some v→Value.okWide Tryz.prog W .any base t v:=hval0
 have hW':=hW
 obtain⟨p,q,hA0,hV,rfl,hfz,hnd⟩:=hW
 have hA:DataW.TrodAll enc Tryz.prog W 0 (fun _=>true) true Tryz.f6.params.toList args.toList ds p:=hA0
 rw [Tryz.params6] at hA hval
 obtain⟨v0,v1,d0,d1,p0,p1,rfl,rfl,rfl,h0,h1⟩:=trodAll_two hA
 obtain⟨rfl,rfl⟩:=trodVars_none hV
 clear hA0 hval0
 simp only [List.append_nil] at hW'
 have hb:Rows.uptoBulkAll [d0,d1]≤1048576:=by
  have:=hcond _ rfl
  rw [List.append_nil] at this
  exact of_decide_eq_true this
 simp only [Rows.uptoBulkAll] at hb
 obtain⟨x0,hv0,hb0⟩:=entryT (hval 0 25 v0 rfl rfl) h0
 obtain⟨x1,hv1,hb1⟩:=entryT (hval 1 25 v1 rfl rfl) h1
 refine (walk (inv_of_laid hL) (law (bulk_T x0 (by omega)) (bulk_sok x0 (by omega)).1 (by have:=(bulk_sok x0 (by omega)).2;omega) (bulk_T x1 (by omega)) (bulk_sok x1 (by omega)).1 (by have:=(bulk_sok x1 (by omega)).2;omega)) (Rl.cons hv0 (Rl.cons hv1 Rl.nil))).mono fun e W' ⟨he,bel⟩=>?_
 subst he
 have hlt:∀x∈p0++p1,x.block<W.heap.size:=fun x hx=>hW'.lt x (by simpa only [aA] using hx)
 exact⟨_,rfl,_,_,_,[],_,[],hW',trodAll_mk1 (shut_bool Tryz.underlying4 _),
  trodAll_mk2 (Below.trod laidOut (by kernel_rfl) (of_decide_eq_true (by kernel_rfl)) h0 bel (fun x hx=>hlt x (by simp [hx]))) (Below.trod laidOut (by kernel_rfl) (of_decide_eq_true (by kernel_rfl)) h1 bel (fun x hx=>hlt x (by simp [hx]))),rfl,bel.frame _,fun h=>by cases h⟩
end Go.Proofs.YthgidapmofcloaaGreatDoor.TreeCompares
