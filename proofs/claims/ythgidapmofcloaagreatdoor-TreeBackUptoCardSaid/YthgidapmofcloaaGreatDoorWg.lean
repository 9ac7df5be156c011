/- The entry: a call of a function without arguments, walked by the Boolean interpreter. -/
import Derived.Test.YthgidapmofcloaaGreatDoorWf
set_option linter.unusedSimpArgs false
set_option linter.unusedVariables false
namespace Go.Dn
open Go Go.RowKit
section
variable {P:Program} {W:World}
def G0 (W:World):Gh:=⟨fun _=>0,fun _=>0,fun _=>0,fun _=>0,fun _=>0,fun b=>b<W.heap.size⟩
theorem own0 {b:Nat}:¬Own St.init (G0 W) b:=by
  rintro (⟨i,hi,_⟩ | ⟨i,hi,_⟩ | ⟨i,hi,_⟩)<;>exact absurd hi (Nat.not_lt_zero i)
theorem inv0:Inv P [] St.init (G0 W) W :=
  { boxLt:=fun i hi=>absurd hi (Nat.not_lt_zero i)
    tokLt:=fun i hi=>absurd hi (Nat.not_lt_zero i)
    mapLt:=fun i hi=>absurd hi (Nat.not_lt_zero i)
    stLt:=fun b hb=>hb
    stOwn:=fun b _=>own0
    box:=fun i ty cs h=>by cases h
    boxInj:=fun i i' x x' h=>by cases h
    boxTok:=fun i x t h=>by cases h
    map:=fun i hi=>absurd hi (Nat.not_lt_zero i)
    mapInj:=fun i i' hi=>absurd hi (Nat.not_lt_zero i)
    tip:=fun t n ty sf h=>by cases h
    tipInj:=fun t t' x x' h=>by cases h
    line:=fun t t' ht=>absurd ht (Nat.not_lt_zero t)
    lnLt:=fun t ht=>absurd ht (Nat.not_lt_zero t)
    kBox:=fun i _=>rfl
    kMap:=fun i _=>rfl
    kMv:=fun i _=>rfl
    kTip:=fun i _=>rfl
    kDl:=fun i _=>rfl
    glob:=fun g cs h=>by cases h }
theorem below_of_ext {S':St} {G':Gh} {W':World} (h:Ext St.init (G0 W) W S' G' W'):Below W.heap.size W W' :=
  ⟨h.os,h.tape,h.output,h.size,fun b hb=>(h.st b hb).2⟩
def retTrue:Res→St→Bool
  |.ret (.bool b),_=>b
  | _,_=>false
end
end Go.Dn
