/- errors.As and errors.Is as contracts over the abstract store. -/
import Derived.Test.YtinhgnepnkbpcaaGreatDoorPrims
import Derived.Lib.IfaceEq
namespace Go.Proofs.YtinhgnepnkbpcaaGreatDoor
open Go.RowKit Go.Extern.Stop Go.Stop Go.Extern

theorem Pr.comp26 : (Tryz.prog.info? 34).map (·.comparable) = some true := by kernel_rfl

set_option maxHeartbeats 4000000 in
set_option maxRecDepth 100000 in
theorem is_hit (pb po : Nat) (m : Int) (w : World) (h1 : w.cell? ⟨pb, po + 1, none⟩ = some (.int .i64 m)) :
    Calls Tryz.prog 46 #[.iface 64 (.pointer (some ⟨pb, po, none⟩)), .iface 34 (.int .i64 m)] w fun e w' => e = .returned (.bool true) ∧ w' = w := by
  have h8 := @run_callFunc_extern Tryz.prog 91 _ Extern.ReflectliteType.typeOf Tryz.func91 (by kernel_rfl) (by kernel_rfl) (by kernel_rfl) (by kernel_rfl)
  have h32 := @run_callFunc_extern Tryz.prog 271 _ (Extern.ReflectliteType.method fun t => do Rtype.noPackHeld "Comparable" t; pure (.bool (← typeInfo t).comparable)) Tryz.func271 (by kernel_rfl) (by kernel_rfl) (by kernel_rfl) (by kernel_rfl)
  have tT := Pr.typeOf26
  have cT := Pr.comparable26
  have mR := Pr.methodComparable
  have nE := Pr.noIs
  have uW := Pr.hasUnwrap
  have mU := Pr.methodUnwrap
  have heq := Go.Lib.run_eql_iface_int (P := Tryz.prog) w (k := .i64) m m Tryz.underlying30 Pr.comp26 Tryz.underlying34
  have hty := run_eql_iface_types (P := Tryz.prog) 64 34 (.pointer (some ⟨pb, po, none⟩)) (.int .i64 m) Tryz.underlying30 (by decide) w
  rw [beq_self_eq_true] at heq
  go_enter Tryz.func46, Tryz.ntmps46
  go_wp2
  refine wp_loop_rounds 2 ?_
  rw [rounds_succ]
  go_wp2
  rw [rounds_succ]
  go_wp2
  go_ret
  exact ⟨rfl, rfl⟩

/-- the powers of ten -/
abbrev pows : List Int := [1, 10, 100, 1000, 10000, 100000, 1000000, 10000000, 100000000, 1000000000, 10000000000, 100000000000, 1000000000000, 10000000000000, 100000000000000, 1000000000000000, 10000000000000000, 100000000000000000, 1000000000000000000, 10000000000000000000]
abbrev powsA : List Dn.AV := [.int .u64 1, .int .u64 10, .int .u64 100, .int .u64 1000, .int .u64 10000, .int .u64 100000, .int .u64 1000000, .int .u64 10000000, .int .u64 100000000, .int .u64 1000000000, .int .u64 10000000000, .int .u64 100000000000, .int .u64 1000000000000, .int .u64 10000000000000, .int .u64 100000000000000, .int .u64 1000000000000000, .int .u64 10000000000000000, .int .u64 100000000000000000, .int .u64 1000000000000000000, .int .u64 10000000000000000000]
theorem powsA_eq : powsA = pows.map (Dn.AV.int .u64) := rfl

abbrev gtT : Dn.GT := [(2, powsA), (0, [.raw (.iface 149 (.agg #[.pointer (some ⟨9, 30, none⟩)]))])]

theorem gtT_cell {S : Dn.St} {G : Dn.Gh} {w : World} (hI : Dn.Inv Tryz.prog gtT S G w) : w.cell? ⟨0, 0, none⟩ = some (.iface 149 (.agg #[.pointer (some ⟨9, 30, none⟩)])) := by
  obtain ⟨_, c, ty, fr, h1, h2⟩ := hI.glob 0 _ rfl
  simp only [Dn.Rl, Dn.Rv] at h2
  obtain ⟨v, r, e1, ⟨rfl, _⟩, rfl⟩ := h2
  obtain ⟨c⟩ := c
  simp only at e1
  subst e1
  simp [World.cell?, h1]

theorem setCell_wBlk {w : World} {b off : Nat} {c : Array Value} {ty : TypeId} {fr : Nat × Nat} (v : Value) (h : w.heap[b]? = some (.cells c ty fr)) : w.setCell ⟨b, off, none⟩ v = Dn.wBlk w b (.cells (c.setIfInBounds off v) ty fr) := by
  have hlt := Dn.lt_of_some h
  simp only [World.setCell, Dn.wBlk]
  congr 1
  apply Array.ext_getElem?
  intro j
  by_cases e : j = b
  · subst e; rw [Array.getElem?_modify, if_pos rfl, h]; simp [hlt]
  · rw [Array.getElem?_setIfInBounds_ne (Ne.symm e), Array.getElem?_modify, if_neg (Ne.symm e)]

theorem body30 : Dn.HasBody Tryz.prog 30 := ⟨_, Tryz.func30, by kernel_rfl, by kernel_rfl⟩
theorem body46 : Dn.HasBody Tryz.prog 46 := ⟨_, Tryz.func46, by kernel_rfl, by kernel_rfl⟩

theorem primAs : Dn.PrimOK Tryz.prog gtT 30 (.errAs 64 66) := by
  intro xs S v S' h
  refine ⟨body30, fun G w args hI hx => ?_⟩
  unfold Dn.primV at h
  split at h <;> try (rename_i e1; cases e1; done)
  · rename_i e1
    cases e1
    simp only [Dn.Rl] at hx
    obtain ⟨u, r, rfl, hu, t, r, rfl, ht, rfl⟩ := hx
    simp only [Dn.Rv] at hu
    subst hu
    cases h
    exact (as_nil t w).mono fun e w' ⟨h1, h2⟩ => by
      subst h1; subst h2
      exact ⟨_, _, _, ⟨rfl, rfl⟩, Dn.Tr.refl hI, by simp only [Dn.Rv]⟩
  · rename_i t tp t' id off tp' tid e1
    cases e1
    cases hb : (Nat.beq 64 t' && Nat.beq 66 tp') with
    | false => rw [hb] at h; cases h
    | true =>
      rw [hb] at h
      simp only [cond_true] at h
      simp only [Bool.and_eq_true] at hb
      obtain rfl := Nat.eq_of_beq_eq_true hb.1
      obtain rfl := Nat.eq_of_beq_eq_true hb.2
      split at h
      · rename_i ty a hbx
        cases h
        simp only [Dn.Rl, Dn.Rv] at hx
        obtain ⟨u, r, rfl, hu, t, r, rfl, ht, rfl⟩ := hx
        obtain ⟨_, rfl, hid, rfl⟩ := hu
        obtain ⟨_, rfl, htid, rfl⟩ := ht
        obtain ⟨_, c, fr, sf, pre, rest, hw, hfr, hcl, hpre⟩ := hI.box tid ty _ hbx
        simp only [Dn.Rl] at hpre
        obtain ⟨u0, r, rfl, _, rfl⟩ := hpre
        have hsz : 0 < c.size := by rw [← Array.length_toList, hcl]; simp
        have hc0 : c[0]? = some u0 := by rw [← Array.getElem?_toList, hcl]; rfl
        refine (as_hit ⟨G.β id, off, none⟩ ⟨G.β tid, 0, none⟩ u0 w (gtT_cell hI) (by simp [World.cell?, hw, hc0]) (by simp only [World.frozen?, hw]; exact hfr.free hsz)).mono fun e w' ⟨h1, h2⟩ => ?_
        subst h1
        generalize hW : (((w.alloc (.cells #[.pointer (some ⟨G.β tid, 0, none⟩)] 66)).alloc (.cells #[.pointer (some ⟨9, 66, none⟩), .pointer (some ⟨w.heap.size, 0, none⟩), .int .u64 150] 111)).alloc (.cells #[.pointer (some ⟨9, 66, none⟩), .pointer (some ⟨w.heap.size, 0, none⟩), .int .u64 150] 111)).alloc (.cells #[.pointer (some ⟨G.β id, off, none⟩)] 64) = W at h2
        have hgr : Dn.Gr w W := by
          subst hW
          exact (((Dn.Gr.push _ _).trans (Dn.Gr.push _ _)).trans (Dn.Gr.push _ _)).trans (Dn.Gr.push _ _)
        clear hW
        have t1 := Dn.Tr.gr hI hgr
        have hw2 : W.heap[G.β tid]? = some (.cells c ty fr) := by rw [hgr.same _ (hI.boxLt tid htid)]; exact hw
        rw [setCell_wBlk _ hw2] at h2
        have t2 := Dn.Tr.boxSet t1.inv (c' := c.setIfInBounds 0 (.pointer (some ⟨G.β id, off, none⟩))) (cs' := [.ptr id off]) (pre' := [.pointer (some ⟨G.β id, off, none⟩)]) (rest := rest) hbx hw2 (by simp) (by simp [hcl]) (by
          refine ⟨_, _, rfl, ?_, rfl⟩
          simp only [Dn.Rv]
          exact ⟨hid, trivial⟩)
        subst h2
        exact ⟨_, _, _, ⟨rfl, rfl⟩, t1.trans t2, by simp only [Dn.Rv]⟩
      · cases h
  · cases h

theorem primIs : Dn.PrimOK Tryz.prog gtT 46 (.errIs 64 34) := by
  intro xs S v S' h
  refine ⟨body46, fun G w args hI hx => ?_⟩
  unfold Dn.primV at h
  split at h <;> try (rename_i e1; cases e1; done)
  · rename_i t ti t' id off ti' n e1
    cases e1
    cases hb : (Nat.beq 64 t' && Nat.beq 34 ti') with
    | false => rw [hb] at h; cases h
    | true =>
      rw [hb] at h
      simp only [cond_true] at h
      simp only [Bool.and_eq_true] at hb
      obtain rfl := Nat.eq_of_beq_eq_true hb.1
      obtain rfl := Nat.eq_of_beq_eq_true hb.2
      split at h
      · rename_i ty cs hbx
        split at h
        · rename_i m hm
          cases hmn : m == n with
          | false => rw [hmn] at h; cases h
          | true =>
            rw [hmn] at h
            cases h
            obtain rfl := eq_of_beq hmn
            simp only [Dn.Rl, Dn.Rv] at hx
            obtain ⟨u, r, rfl, hu, t, r, rfl, ht, rfl⟩ := hx
            obtain ⟨_, rfl, hid, rfl⟩ := hu
            obtain ⟨_, rfl, rfl⟩ := ht
            obtain ⟨_, c, fr, sf, pre, rest, hw, hfr, hcl, hpre⟩ := hI.box id ty cs hbx
            have hc1 : c[off + 1]? = some (.int .i64 m) := by
              rw [← Array.getElem?_toList, hcl]
              obtain ⟨y, hy1, hy2⟩ := Dn.Rl.get hpre hm
              simp only [Dn.Rv] at hy2
              subst hy2
              have q : off + 1 < pre.length := by
                rcases Nat.lt_or_ge (off + 1) pre.length with q | q
                · exact q
                · rw [List.getElem?_eq_none q] at hy1; cases hy1
              rw [List.getElem?_append_left q]
              exact hy1
            refine (is_hit (G.β id) off m w (by simp [World.cell?, hw, hc1])).mono fun e w' ⟨h1, h2⟩ => ?_
            subst h1; subst h2
            exact ⟨_, _, _, ⟨rfl, rfl⟩, Dn.Tr.refl hI, by simp only [Dn.Rv]⟩
        · cases h
      · cases h
  · cases h

theorem prims : Dn.PrimsOK Tryz.prog gtT [(30, .errAs 64 66), (46, .errIs 64 34)] := .cons primAs (.cons primIs .nil)
end Go.Proofs.YtinhgnepnkbpcaaGreatDoor
