/- Two rows that do not clash may be exchanged. -/
import Derived.Test.YtinhgnepnkbpcaaGreatDoorDnDb
import Derived.Test.YtinhgnepnkbpcaaGreatDoorDnX
set_option linter.unusedSimpArgs false
set_option linter.unusedVariables false
namespace Go.Dn
open Go

section
variable {gt : GT} {C : CallT}

theorem conform_agr {l : Option Nat} {op : DOp} {e1 e2 : Env} (h : Agr (readsO op) e1 e2) : conform l e1 op = conform l e2 op := by
  have key : ∀ n, n ∈ readsO op → lk e1 n = lk e2 n := fun n hn => h n hn
  cases op <;> try rfl
  case ld g s x => cases x <;> first | rfl | (simp only [conform]; rw [key _ (by simp [readsO, slotO])])
  case st s x y => cases x <;> first | rfl | (simp only [conform]; rw [key _ (by simp [readsO, slotO])])
  case nilc x => cases x <;> first | rfl | (simp only [conform]; rw [key _ (by simp [readsO, slotO])])
  case fa o x => cases x <;> first | rfl | (simp only [conform]; rw [key _ (by simp [readsO, slotO])])
  case iaA es n x i => cases x <;> first | rfl | (simp only [conform]; rw [key _ (by simp [readsO, slotO])])
  case slP es n x lo hi => cases x <;> first | rfl | (simp only [conform]; rw [key _ (by simp [readsO, slotO])])

theorem writesI_eq (i : DI × Option Nat) : writesI i = i.1.dst.toList ++ stW i.2 i.1.op := by
  unfold writesI stW
  cases i.1.op <;> rfl

theorem stepDO_par {i : DI × Option Nat} {e1 e2 : Env} {S : St} (hA : ∀ d, i.1.dst = some d → isLoc i.1.op = true → noAdr d e1 = noAdr d e2) (h1 : Agr (readsO i.1.op) e1 e2) (h3 : Agr i.2.toList e1 e2) :
    Par (writesI i) i.2.toList e1 e2 (stepDO gt i e1 S) (stepDO gt i e2 S) := by
  have hdW : ∀ d, i.1.dst = some d → d ∈ writesI i := fun d e => by rw [writesI_eq, e]; simp
  unfold stepDO
  cases hL : isLoc i.1.op with
  | true => exact stepL_par hdW h1 fun d e => hA d e hL
  | false =>
    simp only [cond_false]
    rw [← conform_agr (l := i.2) h1]
    cases hc : conform i.2 e1 i.1.op with
    | false => exact par_fail
    | true => exact stepO_par hL hdW (fun n hn => by rw [writesI_eq]; simp [hn]) h1 h3 hc (fun t e => by rw [e]; simp)

theorem stepD_par {i : DI × Option Nat} {e1 e2 : Env} {S : St} (hA : ∀ d, i.1.dst = some d → isLoc i.1.op = true → noAdr d e1 = noAdr d e2) (h : Agr (readsI i) e1 e2) : Par (writesI i) i.2.toList e1 e2 (stepD gt i e1 S) (stepD gt i e2 S) := by
  unfold readsI at h
  obtain ⟨h12, h3⟩ := appE h
  obtain ⟨h1, h2⟩ := appE h12
  have hdW : ∀ d, i.1.dst = some d → d ∈ writesI i := fun d e => by rw [writesI_eq, e]; simp
  have main := stepDO_par (gt := gt) (S := S) hA h1 h3
  unfold stepD
  cases hg : i.1.guard with
  | none => exact main
  | some gw =>
    obtain ⟨g, want⟩ := gw
    rw [hg] at h2
    simp only [h2 g (by simp)]
    split
    · exact par_bif _ main (par_putV hdW _ _)
    · exact par_putV hdW _ _
    · exact par_fail

theorem stepL_pure {op : DOp} {dst : Option Nat} {env : Env} {S T : St} : ParS S T (stepL dst env S op) (stepL dst env T op) := by
  cases op <;> simp only [stepL] <;> (repeat' first | exact pS_fail | exact pS_done _ | apply pS_bif | split)

theorem stepD_pure {i : DI × Option Nat} {env : Env} {S T : St} (he : effO i.2 i.1.op = .pure) : ParS S T (stepD gt i env S) (stepD gt i env T) := by
  have main : ParS S T (stepDO gt i env S) (stepDO gt i env T) := by
    unfold stepDO
    cases hL : isLoc i.1.op with
    | true => exact stepL_pure
    | false =>
      cases hc : conform i.2 env i.1.op with
      | false => exact pS_fail
      | true => exact stepO_pure hL he hc
  unfold stepD
  cases i.1.guard with
  | none => exact main
  | some gw =>
    obtain ⟨g, want⟩ := gw
    simp only
    split
    · exact pS_bif _ main (pS_done _)
    · exact pS_done _
    · exact pS_fail

theorem stepD_still {i : DI × Option Nat} {env : Env} {S : St} (he : effO i.2 i.1.op ≠ .acts) : ParS S S (stepD gt i env S) (stepD gt i env S) := by
  have main : ParS S S (stepDO gt i env S) (stepDO gt i env S) := by
    unfold stepDO
    cases hL : isLoc i.1.op with
    | true => exact stepL_pure
    | false =>
      cases hc : conform i.2 env i.1.op with
      | false => exact pS_fail
      | true => exact stepO_still he hL hc
  unfold stepD
  cases i.1.guard with
  | none => exact main
  | some gw =>
    obtain ⟨g, want⟩ := gw
    simp only
    split
    · exact pS_bif _ main (pS_done _)
    · exact pS_done _
    · exact pS_fail

structure Eqv (e1 e2 : Env) : Prop where
  lk : ∀ n, lk e1 n = lk e2 n
  na : ∀ d, noAdr d e1 = noAdr d e2

theorem Eqv.refl (e : Env) : Eqv e e := ⟨fun _ => rfl, fun _ => rfl⟩

theorem lk_app : ∀ (ws : List (Nat × Ent)) (e : Env) (n : Nat), lk (ws ++ e) n = (lk ws n).or (lk e n)
  | [], e, n => by simp [lk]
  | (k, v) :: ws, e, n => by
    have := lk_app ws e n
    simp only [List.cons_append, lk_cons]
    split
    · rfl
    · exact this

theorem lk_none_of {ws : List (Nat × Ent)} {n : Nat} (h : ∀ p ∈ ws, p.1 ≠ n) : lk ws n = none := by
  induction ws with
  | nil => rfl
  | cons p ws ih =>
    obtain ⟨k, v⟩ := p
    rw [lk_cons, if_neg (h (k, v) (by simp))]
    exact ih fun q hq => h q (by simp [hq])

theorem not_meets {a b : List Nat} (h : meets a b = false) {x : Nat} (ha : x ∈ a) (hb : x ∈ b) : False := by
  unfold meets at h
  rw [Bool.eq_false_iff] at h
  exact h (List.any_eq_true.2 ⟨x, ha, List.any_eq_true.2 ⟨x, hb, Nat.beq_refl x⟩⟩)

/-- what is written beside does not turn what is read -/
theorem agr_app {R W : List Nat} {ws : List (Nat × Ent)} {e : Env} (hw : ∀ p ∈ ws, p.1 ∈ W) (hd : ∀ x, x ∈ W → x ∈ R → False) : Agr R e (ws ++ e) := fun n hn => by
  rw [lk_app, lk_none_of (ws := ws) (n := n) fun p hp e => hd n (by rw [← e]; exact hw p hp) hn]; simp

theorem noAdr_app (d : Nat) (ws e : Env) : noAdr d (ws ++ e) = (noAdr d ws && noAdr d e) := by simp [noAdr]

theorem noAdr_of {d : Nat} {L : List Nat} {ws : Env} (h : ∀ p ∈ ws, ∀ t o, p.2 = .adr t o → t ∈ L) (hd : d ∉ L) : noAdr d ws = true := by
  refine List.all_eq_true.2 fun p hp => ?_
  obtain ⟨k, e⟩ := p
  cases e with
  | adr t o =>
    have ht := h _ hp t o rfl
    simp only [Bool.not_eq_true']
    cases hb : Nat.beq t d
    · rfl
    · exact absurd (Nat.eq_of_beq_eq_true hb ▸ ht) hd
  | _ => rfl

theorem eqv_swap {W W' : List Nat} {ws ws' : List (Nat × Ent)} {e : Env} (h : ∀ p ∈ ws, p.1 ∈ W) (h' : ∀ p ∈ ws', p.1 ∈ W') (hd : ∀ x, x ∈ W → x ∈ W' → False) : Eqv (ws ++ (ws' ++ e)) (ws' ++ (ws ++ e)) := ⟨fun n => by
  simp only [lk_app]
  by_cases hn : n ∈ W
  · rw [lk_none_of (ws := ws') (n := n) fun p hp e => hd n hn (by rw [← e]; exact h' p hp)]
    simp
  · rw [lk_none_of (ws := ws) (n := n) fun p hp e => hn (by rw [← e]; exact h p hp)]
    simp, fun d => by simp only [noAdr_app]; rw [← Bool.and_assoc, ← Bool.and_assoc, Bool.and_comm (noAdr d ws)]⟩

def pw (dst : Option Nat) (v : AV) : List (Nat × Ent) :=
  match dst with
  | some d => [(d, .val v)]
  | none => []

theorem putV_pw (dst : Option Nat) (v : AV) (env : Env) : putV dst v env = pw dst v ++ env := by cases dst <;> rfl

theorem pw_W {i : DI × Option Nat} {v : AV} : ∀ p ∈ pw i.1.dst v, p.1 ∈ writesI i := fun p hp => by
  rw [writesI_eq]
  unfold pw at hp
  cases h : i.1.dst with
  | none => rw [h] at hp; cases hp
  | some d => rw [h] at hp; simp only [List.mem_singleton] at hp; subst hp; simp

/-! ### rows that read -/

theorem loc_pure {l : Option Nat} {op : DOp} (h : isLoc op = true) : effO l op = .pure := by
  cases op <;> first | rfl | (cases h)

def ValR (e : Env) (dst : Option Nat) : SR → Prop
  | .done e2 _ => ∃ v, e2 = putV dst v e
  | _ => True

theorem valR_val {e : Env} {dst : Option Nat} {S : St} (x : Option AV) : ValR e dst (SR.val dst e S x) := by
  cases x with
  | none => trivial
  | some v => exact ⟨v, rfl⟩
theorem valR_put {e : Env} {dst : Option Nat} {S : St} (v : AV) : ValR e dst (.done (putV dst v e) S) := ⟨v, rfl⟩
theorem valR_bif {e : Env} {dst : Option Nat} (b : Bool) {x y : SR} (h : ValR e dst x) (k : ValR e dst y) : ValR e dst (bif b then x else y) := by cases b <;> assumption

theorem stepO_reads {l : Option Nat} {op : DOp} {dst : Option Nat} {e : Env} {S : St} (he : effO l op = .reads) : ValR e dst (stepO gt dst e S op) := by
  cases op <;> first | (cases he; done) | skip
  case st sz x y => simp only [effO] at he; split at he <;> cases he
  all_goals simp only [stepO]
  all_goals repeat' first | exact valR_val _ | exact valR_put _ | exact trivial | apply valR_bif | split

theorem stepD_reads {i : DI × Option Nat} {e : Env} {S : St} (he : effO i.2 i.1.op = .reads) : ValR e i.1.dst (stepD gt i e S) := by
  have hL : isLoc i.1.op = false := by
    cases h : isLoc i.1.op with
    | false => rfl
    | true => rw [loc_pure h] at he; cases he
  have main : ValR e i.1.dst (stepDO gt i e S) := by
    unfold stepDO
    rw [hL]
    cases hc : conform i.2 e i.1.op with
    | false => exact trivial
    | true => exact stepO_reads he
  unfold stepD
  cases i.1.guard with
  | none => exact main
  | some gw =>
    obtain ⟨g, want⟩ := gw
    simp only
    split
    · exact valR_bif _ main (valR_put _)
    · exact valR_put _
    · exact trivial

theorem beqO_eq {a b : Option Nat} (h : beqO a b = true) : a = b := by
  cases a <;> cases b <;> simp only [beqO, Bool.false_eq_true] at h
  · rfl
  · rw [Nat.eq_of_beq_eq_true h]

theorem beqT_eq {a b : Option (Nat × Nat)} (h : beqT a b = true) : a = b := by
  cases a with
  | none => cases b <;> simp only [beqT, Bool.false_eq_true] at h; rfl
  | some p =>
    obtain ⟨p1, p2⟩ := p
    cases b with
    | none => simp [beqT] at h
    | some q =>
      obtain ⟨q1, q2⟩ := q
      simp only [beqT, Bool.and_eq_true] at h
      rw [Nat.eq_of_beq_eq_true h.1, Nat.eq_of_beq_eq_true h.2]

theorem beqSI_eq {a b : SI} (h : beqSI a b = true) : a = b := by
  obtain ⟨t, o, c, n⟩ := a
  obtain ⟨t', o', c', n'⟩ := b
  simp only [beqSI, Bool.and_eq_true, beq_iff_eq] at h
  obtain ⟨h1, h2, h3, h4⟩ := h
  rw [beqT_eq h1, Nat.eq_of_beq_eq_true h2, beqO_eq h3, h4]

theorem beqB_eq' : ∀ {x y : List UInt8}, beqB x y = true → x = y
  | [], [], _ => rfl
  | [], _ :: _, h => by simp [beqB] at h
  | _ :: _, [], h => by simp [beqB] at h
  | a :: x, b :: y, h => by
    simp only [beqB] at h
    cases hb : Nat.beq a.toNat b.toNat with
    | false => rw [hb] at h; cases h
    | true =>
      rw [hb] at h
      rw [UInt8.toNat_inj.1 (Nat.eq_of_beq_eq_true hb), beqB_eq' h]

mutual
theorem beqA_eq : ∀ {x y : AV}, beqA x y = true → x = y
  | .undef, y, h => by cases y <;> first | rfl | (simp [beqA] at h)
  | .bool a, y, h => by cases y <;> first | (simp only [beqA, beq_iff_eq] at h; rw [h]) | (simp [beqA] at h)
  | .int k a, y, h => by
    cases y <;> first | (simp [beqA] at h; done) | skip
    simp only [beqA, Bool.and_eq_true, decide_eq_true_eq, beq_iff_eq] at h; rw [h.1, h.2]
  | .str s, y, h => by
    cases y <;> first | (simp [beqA] at h; done) | skip
    simp only [beqA] at h; rw [beqB_eq' h]
  | .nilp, y, h => by cases y <;> first | rfl | (simp [beqA] at h)
  | .ptr a b, y, h => by
    cases y <;> first | (simp [beqA] at h; done) | skip
    simp only [beqA, Bool.and_eq_true] at h; rw [Nat.eq_of_beq_eq_true h.1, Nat.eq_of_beq_eq_true h.2]
  | .gptr a b, y, h => by
    cases y <;> first | (simp [beqA] at h; done) | skip
    simp only [beqA, Bool.and_eq_true] at h; rw [Nat.eq_of_beq_eq_true h.1, Nat.eq_of_beq_eq_true h.2]
  | .anyp, y, h => by cases y <;> first | rfl | (simp [beqA] at h)
  | .eptr es o xs i off, y, h => by
    cases y <;> first | (simp [beqA] at h; done) | skip
    simp only [beqA, Bool.and_eq_true] at h
    obtain ⟨h1, h2, h3, h4, h5⟩ := h
    rw [Nat.eq_of_beq_eq_true h1, beqSI_eq h2, Nat.eq_of_beq_eq_true h3, Nat.eq_of_beq_eq_true h4, beqAL_eq h5]
  | .sl es o xs, y, h => by
    cases y <;> first | (simp [beqA] at h; done) | skip
    simp only [beqA, Bool.and_eq_true] at h
    obtain ⟨h1, h2, h3⟩ := h
    rw [Nat.eq_of_beq_eq_true h1, beqSI_eq h2, beqAL_eq h3]
  | .fn f a b, y, h => by
    cases y <;> first | (simp [beqA] at h; done) | skip
    simp only [beqA, Bool.and_eq_true] at h
    obtain ⟨h1, h2, h3⟩ := h
    rw [Nat.eq_of_beq_eq_true h1, beqAL_eq h2, beqAL_eq h3]
  | .nilfn, y, h => by cases y <;> first | rfl | (simp [beqA] at h)
  | .ifc t v, y, h => by
    cases y <;> first | (simp [beqA] at h; done) | skip
    simp only [beqA, Bool.and_eq_true] at h
    rw [Nat.eq_of_beq_eq_true h.1, beqA_eq h.2]
  | .nilif, y, h => by cases y <;> first | rfl | (simp [beqA] at h)
  | .agg a, y, h => by
    cases y <;> first | (simp [beqA] at h; done) | skip
    simp only [beqA] at h; rw [beqAL_eq h]
  | .tup a, y, h => by
    cases y <;> first | (simp [beqA] at h; done) | skip
    simp only [beqA] at h; rw [beqAL_eq h]
  | .nilmap, y, h => by cases y <;> first | rfl | (simp [beqA] at h)
  | .map a, y, h => by
    cases y <;> first | (simp [beqA] at h; done) | skip
    simp only [beqA] at h; rw [Nat.eq_of_beq_eq_true h]
  | .raw v, y, h => by cases y <;> simp [beqA] at h
theorem beqAL_eq : ∀ {x y : List AV}, beqAL x y = true → x = y
  | [], [], _ => rfl
  | [], _ :: _, h => by simp [beqAL] at h
  | _ :: _, [], h => by simp [beqAL] at h
  | a :: x, b :: y, h => by
    simp only [beqAL, Bool.and_eq_true] at h
    rw [beqA_eq h.1, beqAL_eq h.2]
end

theorem reads_noLoc {i : DI × Option Nat} (he : effO i.2 i.1.op = .reads) : isLoc i.1.op = false := by
  cases h : isLoc i.1.op with
  | false => rfl
  | true => rw [loc_pure h] at he; cases he

theorem stays_agr {z : DI × Option Nat} (hL : isLoc z.1.op = false) {e1 e2 : Env} {S : St} (h : Agr (readsI z ++ writesI z) e1 e2) (hs : stays gt e1 S z = true) : stays gt e2 S z = true := by
  obtain ⟨h1, h2⟩ := appE h
  unfold stays at hs ⊢
  cases hd : z.1.dst with
  | none => rw [hd] at hs; cases hs
  | some d =>
    rw [hd] at hs
    simp only at hs ⊢
    have hp := stepD_par (gt := gt) (S := S) (fun _ _ hh => by rw [hL] at hh; cases hh) h1
    have hdl : lk e1 d = lk e2 d := h2 d (by rw [writesI_eq, hd]; simp)
    cases hx : stepD gt z e1 S with
    | done a s =>
      rw [hx] at hs hp
      cases hy : stepD gt z e2 S with
      | done b t =>
        rw [hy] at hp
        obtain ⟨rfl, ws, rfl, rfl, _⟩ := hp
        simp only [lk_app, hdl] at hs ⊢
        exact hs
      | fail => rw [hy] at hp; exact hp.elim
      | call f xs => rw [hy] at hp; exact hp.elim
      | pan v => rw [hy] at hp; exact hp.elim
    | fail => rw [hx] at hs; cases hs
    | call f xs => rw [hx] at hs; cases hs
    | pan v => rw [hx] at hs; cases hs

theorem stab_mem {cs : List (DI × Option Nat)} {e : Env} {S : St} (h : stab gt cs e S = true) {z : DI × Option Nat} (hz : z ∈ cs) : stays gt e S z = true := List.all_eq_true.1 h z hz

theorem agr_mid {R W : List Nat} {ws ws2 : List (Nat × Ent)} {e : Env} (hw : ∀ p ∈ ws, p.1 ∈ W) (hd : ∀ x, x ∈ W → x ∈ R → False) : Agr R (ws2 ++ (ws ++ e)) (ws2 ++ e) := fun n hn => by
  rw [lk_app, lk_app, lk_app, lk_none_of (ws := ws) (n := n) fun p hp e => hd n (by rw [← e]; exact hw p hp) hn]; simp

/-- THE EXCHANGE. -/
theorem swapD (hm : MonoC C) {x y : DI × Option Nat} {cx cy c : List (DI × Option Nat)} {env : Env} {S : St} {K : Env → St → Prop} {Q : Ex → Env → St → Prop}
    (hc : clash x y = false ∨ (softC x y = true ∧ x ∈ cy ∧ meets (writesI x) (readsI x) = false)) (hcx : cx = [] ∨ effO x.2 x.1.op = .acts)
    (hsub : ∀ z ∈ c, z ∈ cy ∧ meets (writesI x) (readsI z ++ writesI z) = false ∧ effO z.2 z.1.op = .reads)
    (hK : ∀ e e' S, Eqv e e' → K e S → K e' S) (hQ : ∀ v S e e', Q (.pan v) e S → Q (.pan v) e' S)
    (H : afterS C x.1.dst env S (fun e1 S1 => stab gt cx e1 S1 = true ∧ afterS C y.1.dst e1 S1 (fun e2 S2 => stab gt cy e2 S2 = true ∧ K e2 S2) Q (stepD gt y e1 S1)) Q (stepD gt x env S)) :
    afterS C y.1.dst env S (fun e1 S1 => stab gt c e1 S1 = true ∧ afterS C x.1.dst e1 S1 (fun e2 S2 => stab gt cx e2 S2 = true ∧ K e2 S2) Q (stepD gt x e1 S1)) Q (stepD gt y env S) := by
  have hW : clashW x y = false := by
    rcases hc with h | ⟨h, _⟩
    · unfold clash at h
      simp only [Bool.or_eq_false_iff] at h
      exact h.1
    · unfold softC at h
      simp only [Bool.and_eq_true, Bool.not_eq_true'] at h
      exact h.1
  unfold clashW at hW
  simp only [Bool.or_eq_false_iff] at hW
  obtain ⟨m1, m2, m3⟩ := hW
  have hxa : effO x.2 x.1.op ≠ .acts := fun e => by
    rcases hc with h | ⟨h, _⟩
    · unfold clash clashE at h
      simp only [Bool.or_eq_false_iff, e] at h
      simp at h
    · unfold softC at h
      rw [e] at h
      simp [isReads] at h
  have hcx : cx = [] := hcx.resolve_right hxa
  subst hcx
  -- the first row is done, and leaves the store
  have hst := stepD_still (gt := gt) (i := x) (env := env) (S := S) hxa
  cases hx : stepD gt x env S with
  | fail => rw [hx] at H; exact H.elim
  | call f xs => rw [hx] at hst; exact hst.elim
  | pan v => rw [hx] at hst; exact hst.elim
  | done e1 S1 =>
    rw [hx] at hst H
    obtain ⟨_, rfl, _⟩ := hst
    have locR : ∀ {i : DI × Option Nat} {t : Nat}, t ∈ i.2.toList → t ∈ readsI i := fun {i t} h => by unfold readsI; simp only [List.mem_append]; exact .inr h
    have dstW : ∀ {i : DI × Option Nat} {d : Nat}, i.1.dst = some d → d ∈ writesI i := fun {i d} h => by rw [writesI_eq, h]; simp
    -- the first row on another frame
    have other : ∀ env2, Agr (readsI x) env env2 → (∀ d, x.1.dst = some d → isLoc x.1.op = true → noAdr d env = noAdr d env2) → ∃ ws : List (Nat × Ent), e1 = ws ++ env ∧ stepD gt x env2 S1 = .done (ws ++ env2) S1 ∧ (∀ p ∈ ws, p.1 ∈ writesI x) ∧ ∀ p ∈ ws, ∀ t o, p.2 = .adr t o → t ∈ x.2.toList := fun env2 h2 hA => by
      have hp := stepD_par (gt := gt) (S := S1) hA h2
      rw [hx] at hp
      cases hz : stepD gt x env2 S1 with
      | done e2 S2 =>
        rw [hz] at hp
        obtain ⟨rfl, ws, h1, h2, h3⟩ := hp
        exact ⟨ws, h1, by rw [h2], fun p hp => (h3 p hp).1, fun p hp => (h3 p hp).2⟩
      | fail => rw [hz] at hp; exact hp.elim
      | call f xs => rw [hz] at hp; exact hp.elim
      | pan v => rw [hz] at hp; exact hp.elim
    have pureO : effO x.2 x.1.op = .pure → ∀ env2 e2 S2, stepD gt x env2 S1 = .done e2 S1 → stepD gt x env2 S2 = .done e2 S2 := fun hp env2 e2 S2 h2 => by
      have := stepD_pure (gt := gt) (env := env2) (S := S1) (T := S2) hp
      rw [h2] at this
      cases hz : stepD gt x env2 S2 with
      | done e3 S3 => rw [hz] at this; obtain ⟨rfl, _, rfl⟩ := this; rfl
      | fail => rw [hz] at this; exact this.elim
      | call f xs => rw [hz] at this; exact this.elim
      | pan v => rw [hz] at this; exact this.elim
    obtain ⟨ws, rfl, _, hws, hwa⟩ := other env (fun _ _ => rfl) (fun _ _ _ => rfl)
    have hagr : Agr (readsI y) (ws ++ env) env := fun n hn => (agr_app hws (fun z h1 h2 => not_meets m1 h1 h2) n hn).symm
    have hAy : ∀ d, y.1.dst = some d → isLoc y.1.op = true → noAdr d (ws ++ env) = noAdr d env := fun d e _ => by
      rw [noAdr_app, noAdr_of hwa fun h => not_meets m2 (locR h) (dstW e), Bool.true_and]
    have hpar := stepD_par (gt := gt) (S := S1) hAy hagr
    -- the frame behind the second row, the first on it
    have join : ∀ (ws2 : List (Nat × Ent)) (S2 : St), (∀ p ∈ ws2, p.1 ∈ writesI y) → (∀ p ∈ ws2, ∀ t o, p.2 = .adr t o → t ∈ y.2.toList) → (effO y.2 y.1.op ≠ .acts → S2 = S1) → stab gt cy (ws2 ++ (ws ++ env)) S2 = true →
        ∃ ws' : List (Nat × Ent), stepD gt x (ws2 ++ env) S2 = .done (ws' ++ (ws2 ++ env)) S2 ∧ Eqv (ws2 ++ (ws ++ env)) (ws' ++ (ws2 ++ env)) := fun ws2 S2 h2 h2a hS hstab => by
      rcases hc with hc | ⟨hc, hmem, hself⟩
      · obtain ⟨ws', he, hd, hw', _⟩ := other (ws2 ++ env) (agr_app h2 fun z h1 h2 => not_meets m2 h2 h1) (fun d e _ => by
          rw [noAdr_app, noAdr_of h2a fun h => not_meets m1 (dstW e) (locR h), Bool.true_and])
        refine ⟨ws', ?_, ?_⟩
        · by_cases hya : effO y.2 y.1.op = .acts
          · have hxp : effO x.2 x.1.op = .pure := by
              unfold clash clashE at hc
              simp only [Bool.or_eq_false_iff] at hc
              cases hx : effO x.2 x.1.op with
              | pure => rfl
              | reads => rw [hx, hya] at hc; simp at hc
              | acts => exact absurd hx hxa
            exact pureO hxp _ _ _ hd
          · rw [hS hya]; exact hd
        · rw [he]
          exact eqv_swap h2 hw' fun z h1 h2 => not_meets m3 h2 h1
      · have hre : effO x.2 x.1.op = .reads := by
          unfold softC at hc
          simp only [Bool.and_eq_true] at hc
          cases h : effO x.2 x.1.op with
          | reads => rfl
          | pure => rw [h] at hc; simp [isReads] at hc
          | acts => rw [h] at hc; simp [isReads] at hc
        have hL := reads_noLoc hre
        have hst := stab_mem hstab hmem
        unfold stays at hst
        cases hd : x.1.dst with
        | none => rw [hd] at hst; cases hst
        | some d =>
          rw [hd] at hst
          simp only at hst
          -- what it read
          have hv := stepD_reads (gt := gt) (i := x) (e := env) (S := S1) hre
          rw [hx] at hv
          obtain ⟨v, hv⟩ := hv
          have hwse : ws = [(d, .val v)] := by
            rw [hd] at hv
            exact List.append_cancel_right (hv.trans (by rfl : putV (some d) v env = [(d, .val v)] ++ env))
          subst hwse
          have hlE : lk (ws2 ++ ([(d, .val v)] ++ env)) d = some (.val v) := by
            rw [lk_app, lk_none_of (ws := ws2) (n := d) fun p hp e => not_meets m3 (dstW hd) (by rw [← e]; exact h2 p hp)]
            simp [lk_cons]
          rw [hlE] at hst
          have hv2 := stepD_reads (gt := gt) (i := x) (e := ws2 ++ ([(d, .val v)] ++ env)) (S := S2) hre
          have hst2 := stepD_still (gt := gt) (i := x) (env := ws2 ++ ([(d, .val v)] ++ env)) (S := S2) hxa
          have hp := stepD_par (gt := gt) (i := x) (e1 := ws2 ++ ([(d, .val v)] ++ env)) (e2 := ws2 ++ env) (S := S2) (fun _ _ hh => by rw [hL] at hh; cases hh) (agr_mid hws fun z h1 h2 => not_meets hself h1 h2)
          cases hz : stepD gt x (ws2 ++ ([(d, .val v)] ++ env)) S2 with
          | done e3 S3 =>
            rw [hz] at hst hv2 hst2 hp
            obtain ⟨v3, hv3⟩ := hv2
            obtain ⟨_, rfl, _⟩ := hst2
            rw [hd] at hv3
            subst hv3
            have h3 : lk (putV (some d) v3 (ws2 ++ ([(d, .val v)] ++ env))) d = some (.val v3) := by simp [putV, putE, lk_cons]
            simp only [h3] at hst
            have := beqA_eq hst
            subst this
            cases hz2 : stepD gt x (ws2 ++ env) S3 with
            | done e4 S4 =>
              rw [hz2] at hp
              obtain ⟨rfl, wz, hz3, rfl, _⟩ := hp
              have hwz : wz = [(d, .val v3)] := List.append_cancel_right (hz3.symm.trans (by rfl : putV (some d) v3 (ws2 ++ ([(d, .val v3)] ++ env)) = [(d, .val v3)] ++ (ws2 ++ ([(d, .val v3)] ++ env))))
              subst hwz
              exact ⟨_, rfl, eqv_swap h2 hws fun z h1 h2 => not_meets m3 h2 h1⟩
            | fail => rw [hz2] at hp; exact hp.elim
            | call f xs => rw [hz2] at hp; exact hp.elim
            | pan u => rw [hz2] at hp; exact hp.elim
          | fail => rw [hz] at hst; cases hst
          | call f xs => rw [hz] at hst; cases hst
          | pan u => rw [hz] at hst; cases hst
    -- what is looked at again
    have again : ∀ (ws2 : List (Nat × Ent)) (S2 : St), stab gt cy (ws2 ++ (ws ++ env)) S2 = true → stab gt c (ws2 ++ env) S2 = true := fun ws2 S2 hs => by
      refine List.all_eq_true.2 fun z hz => ?_
      obtain ⟨z1, z2, z3⟩ := hsub z hz
      exact stays_agr (reads_noLoc z3) (agr_mid hws fun n h1 h2 => not_meets z2 h1 h2) (stab_mem hs z1)
    simp only [afterS] at H
    obtain ⟨_, H⟩ := H
    cases hy : stepD gt y (ws ++ env) S1 with
    | fail => rw [hy] at H; exact H.elim
    | done e2 S2 =>
      rw [hy] at H hpar
      cases hy2 : stepD gt y env S1 with
      | fail => rw [hy2] at hpar; exact hpar.elim
      | call f xs => rw [hy2] at hpar; exact hpar.elim
      | pan v => rw [hy2] at hpar; exact hpar.elim
      | done e3 S3 =>
        rw [hy2] at hpar
        obtain ⟨rfl, ws2, rfl, rfl, h2⟩ := hpar
        obtain ⟨H1, H2⟩ := H
        obtain ⟨ws', hd, heq⟩ := join ws2 S2 (fun p hp => (h2 p hp).1) (fun p hp => (h2 p hp).2) (fun hya => by
          have := stepD_still (gt := gt) (i := y) (env := env) (S := S1) hya
          rw [hy2] at this
          exact this.2.1) H1
        refine ⟨again _ _ H1, ?_⟩
        simp only [hd]
        exact ⟨rfl, hK _ _ _ heq H2⟩
    | call f xs =>
      rw [hy] at H hpar
      cases hy2 : stepD gt y env S1 with
      | fail => rw [hy2] at hpar; exact hpar.elim
      | done e3 S3 => rw [hy2] at hpar; exact hpar.elim
      | pan v => rw [hy2] at hpar; exact hpar.elim
      | call f2 xs2 =>
        rw [hy2] at hpar
        obtain ⟨rfl, rfl⟩ := hpar
        have hya : effO y.2 y.1.op = .acts := by
          cases h : effO y.2 y.1.op with
          | acts => rfl
          | _ =>
            have := stepD_still (gt := gt) (i := y) (env := env) (S := S1) (by rw [h]; simp)
            rw [hy2] at this
            exact this.elim
        simp only [afterS] at H ⊢
        refine hm _ _ _ _ _ H fun r S' hr => ?_
        cases r with
        | pan v => exact hQ _ _ _ _ hr
        | ret v =>
          simp only at hr ⊢
          obtain ⟨H1, H2⟩ := hr
          rw [putV_pw] at H1 H2 ⊢
          obtain ⟨ws', hd, heq⟩ := join (pw y.1.dst v) S' pw_W (fun p hp t o e => by
            unfold pw at hp
            cases h : y.1.dst with
            | none => rw [h] at hp; cases hp
            | some d => rw [h] at hp; simp only [List.mem_singleton] at hp; subst hp; cases e) (fun h => absurd hya h) H1
          refine ⟨again _ _ H1, ?_⟩
          simp only [hd]
          exact ⟨rfl, hK _ _ _ heq H2⟩
    | pan v =>
      rw [hy] at H hpar
      cases hy2 : stepD gt y env S1 with
      | fail => rw [hy2] at hpar; exact hpar.elim
      | done e3 S3 => rw [hy2] at hpar; exact hpar.elim
      | call f xs => rw [hy2] at hpar; exact hpar.elim
      | pan u =>
        rw [hy2] at hpar
        have hpar : v = u := hpar
        subst hpar
        exact hQ _ _ _ _ H
end
end Go.Dn
