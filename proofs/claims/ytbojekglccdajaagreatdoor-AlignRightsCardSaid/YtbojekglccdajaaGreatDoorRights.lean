/- Walks over abstract code: the two functions that 'AlignRights' holds against each other, and it itself. -/
import Derived.Test.YtbojekglccdajaaGreatDoorCodeTab
import Derived.Test.YtbojekglccdajaaGreatDoorDnZ
set_option linter.unusedSimpArgs false
set_option linter.unusedVariables false
namespace Go.Dn
open Go Go.Proofs.YtbojekglccdajaaGreatDoor.C1
set_option maxRecDepth 100000
attribute [local irreducible] afterS

def pairR (n : Int) : List Int → List Int → Bool
  | [], _ => true
  | x :: r, seen => if x < 0 then (if x < -1 then false else pairR n r seen) else if n ≤ x ∨ x ∈ seen then false else pairR n r (x :: seen)

theorem wr64 {n : Int} (h : -9223372036854775808 ≤ n) (h2 : n < 9223372036854775808) : wr .i64 n = n := by
  rw [wr_eq]
  refine inR_wrap ?_
  cases n with
  | ofNat m => simp only [inR]; exact Nat.ble_eq_true_of_le (by have : (m : Int) < 9223372036854775808 := h2; omega)
  | negSucc m => simp only [inR]; exact Nat.ble_eq_true_of_le (by have : -9223372036854775808 ≤ -((m : Int) + 1) := by rw [← Int.negSucc_eq]; exact h
                                                                  omega)

theorem wrNat {k : Nat} (h : k + 1 < 9223372036854775808) : wr .i64 ((k : Int) + 1) = ((k + 1 : Nat) : Int) := by
  rw [wr64 (by omega) (by omega)]; rfl

theorem getI_snoc {es : List (AV × AV)} {x v a : Int} (h : IntMap es) (hn : getI es x = none) : getI (es ++ [(.int .i64 x, .int .i64 v)]) a = if a = x then some v else getI es a := by
  induction es with
  | nil => simp only [List.nil_append, getI]
  | cons p r ih =>
    obtain ⟨b, u, rfl⟩ := h p (by simp)
    simp only [List.cons_append, getI] at hn ⊢
    have hxb : x ≠ b := fun e => by rw [if_pos e] at hn; cases hn
    rw [if_neg hxb] at hn
    rw [ih (fun q hq => h q (by simp [hq])) hn]
    by_cases e1 : a = b
    · subst e1
      rw [if_pos rfl, if_neg (fun e => hxb e.symm), if_pos rfl]
    · rw [if_neg e1, if_neg e1]

theorem IntMap.snoc {es : List (AV × AV)} {x v : Int} (h : IntMap es) : IntMap (es ++ [(.int .i64 x, .int .i64 v)]) := fun p hp => by
  rcases List.mem_append.1 hp with hp | hp
  · exact h p hp
  · simp only [List.mem_singleton] at hp; exact ⟨x, v, hp⟩

theorem IntMap.set {es : List (AV × AV)} {i : Nat} {x v : Int} (h : IntMap es) : IntMap (es.set i (.int .i64 x, .int .i64 v)) := fun p hp => by
  rcases List.mem_or_eq_of_mem_set hp with hp | hp
  · exact h p hp
  · exact ⟨x, v, hp⟩

/-- a search that finds: by what the map holds -/
theorem find_some {es : List (AV × AV)} (h : IntMap es) {x v : Int} (hg : getI es x = some v) : ∃ i, findK .int (.int .i64 x) es 0 = some (some (i, .int .i64 v)) ∧ keyAt .int es i = true ∧ ∀ u, getI (es.set i (.int .i64 x, .int .i64 u)) x = some u := by
  obtain ⟨r, h1, h2⟩ := findK_int h x 0
  cases r with
  | none => simp only at h2; rw [hg] at h2; cases h2
  | some q =>
    obtain ⟨j, y⟩ := q
    obtain ⟨v', e1, e2, e3, a, e4, e5, e6⟩ := h2
    clear e3
    rw [hg] at e2
    cases e2
    subst e1
    rw [Nat.sub_zero] at e4 e6
    refine ⟨j, h1, by simp [keyAt, e4, keyV], fun u => ?_⟩
    subst e5
    clear h1 hg
    induction es generalizing j with
    | nil => simp at e4
    | cons p r ih =>
      cases j with
      | zero => simp [getI]
      | succ j =>
        obtain ⟨b, w, rfl⟩ := h p (by simp)
        have hb := e6 0 (by omega) b _ (by simp; rfl)
        simp only [List.set_cons_succ, getI]
        rw [if_neg fun e => hb e.symm]
        exact ih (fun q hq => h q (by simp [hq])) j (by simpa using e4) (fun m hm b' v' hb' => e6 (m + 1) (by omega) b' v' (by simpa using hb'))

theorem find_none {es : List (AV × AV)} (h : IntMap es) {x : Int} (hg : getI es x = none) : findK .int (.int .i64 x) es 0 = some none := by
  obtain ⟨r, h1, h2⟩ := findK_int h x 0
  cases r with
  | none => exact h1
  | some q => obtain ⟨j, y⟩ := q; obtain ⟨v', _, e2, _⟩ := h2; rw [hg] at e2; cases e2

def ints (xs : List Int) : List AV := xs.map (.int .i64)

def E17 (n : Int) (id : Nat) (off : Nat) (cap : Option Nat) (nl : Bool) (xs : List Int) (k : Nat) : Env :=
  [(1, .val (.int .i64 n)), (5, .val (.map id)), (9, .val (.sl 1 ⟨none, off, cap, nl⟩ (ints xs))), (10, .val (.int .i64 (ints xs).length)), (11, .val (.int .i64 k))]

set_option maxHeartbeats 4000000 in
theorem right_wp {gt : GT} {C : CallT} (hm : MonoC C) (off : Nat) (cap : Option Nat) (nl : Bool) (xs : List Int) (hxl : xs.length < 9223372036854775808) (n : Int) (S : St) (Q : Res → St → Prop) (hQ : ∀ S', Q (.ret (.bool (pairR n xs []))) S') :
    wpF gt C F17 [.sl 1 ⟨none, off, cap, nl⟩ (ints xs), .int .i64 n] S Q := by
  refine ⟨rfl, ?_⟩
  conv => whnf
  repeat (refine step_rule (by rfl) ?_; conv => whnf)
  refine loop_rule hm (α := Nat) (fun k env S' => k ≤ xs.length ∧ env = E17 n S.nm off cap nl xs k ∧ ∃ es seen, lk S'.maps S.nm = some es ∧ IntMap es ∧ (∀ a, getI es a = if a ∈ seen then some 1 else none) ∧ pairR n xs [] = pairR n (xs.drop k) seen) (fun k => xs.length - k) ?_ (a := 0) ⟨Nat.zero_le _, rfl, [], [], lk_same _ _ _, (fun p hp => by cases hp), (fun a => by simp [getI]), rfl⟩
  rintro k env S' ⟨hk, rfl, es, seen, hes, him, hget, hp⟩
  conv => whnf
  repeat (refine step_rule (by rfl) ?_; conv => whnf)
  by_cases h : (k : Int) < (ints xs).length
  · rw [decide_eq_true h]
    conv => whnf
    repeat (refine step_rule (by rfl) ?_; conv => whnf)
    have hkl : k < xs.length := by simp [ints] at h; omega
    refine step_rule (by exact st_ia (k := k) rfl rfl (by simpa [ints] using hkl)) ?_
    conv => whnf
    repeat (refine step_rule (by rfl) ?_; conv => whnf)
    have hx : (ints xs)[k]? = some (.int .i64 xs[k]) := by simp [ints, hkl]
    refine step_rule (by exact st_ldEl (k := k) (v := .int .i64 xs[k]) rfl rfl hx rfl) ?_
    conv => whnf
    repeat (refine step_rule (by rfl) ?_; conv => whnf)
    have hdrop : xs.drop k = xs[k] :: xs.drop (k + 1) := (List.drop_eq_getElem_cons hkl)
    rw [hdrop] at hp
    generalize xs[k] = x at hp hx ⊢
    by_cases h0 : x < 0
    · rw [decide_eq_true h0]
      conv => whnf
      repeat (refine step_rule (by rfl) ?_; conv => whnf)
      by_cases h1 : x < -1
      · rw [decide_eq_true h1]
        conv => whnf
        repeat (refine step_rule (by rfl) ?_; conv => whnf)
        refine ⟨_, rfl, ?_⟩
        have := hQ S'
        rw [hp, pairR, if_pos h0, if_pos h1] at this
        exact this
      · rw [decide_eq_false h1]
        conv => whnf
        repeat (refine step_rule (by rfl) ?_; conv => whnf)
        refine ⟨k + 1, ⟨by omega, ?_, es, seen, hes, him, hget, by rw [hp, pairR, if_pos h0, if_neg h1]⟩, by omega⟩
        rw [wrNat (by omega)]; rfl
    · rw [decide_eq_false h0]
      conv => whnf
      repeat (refine step_rule (by rfl) ?_; conv => whnf)
      cases hg : getI es x with
      | none =>
        have hns : x ∉ seen := fun hm => by rw [hget, if_pos hm] at hg; cases hg
        have hfn := find_none him hg
        refine step_rule (by exact st_lkpN trivial rfl rfl rfl hes hfn) ?_
        conv => whnf
        repeat (refine step_rule (by rfl) ?_; conv => whnf)
        refine step_rule (by exact st_mupN trivial rfl rfl rfl rfl hes hfn) ?_
        conv => whnf
        repeat (refine step_rule (by rfl) ?_; conv => whnf)
        by_cases h2 : x ≥ n
        · rw [decide_eq_true h2]
          conv => whnf
          repeat (refine step_rule (by rfl) ?_; conv => whnf)
          refine ⟨_, rfl, ?_⟩
          have := hQ { S' with maps := (S.nm, es ++ [(.int .i64 x, .int .i64 1)]) :: S'.maps }
          rw [hp, pairR, if_neg h0, if_pos (.inl h2)] at this
          exact this
        · rw [decide_eq_false h2]
          conv => whnf
          repeat (refine step_rule (by rfl) ?_; conv => whnf)
          have hes2 : lk ((S.nm, es ++ [(AV.int .i64 x, AV.int .i64 (wr .i64 (0 + 1)))]) :: S'.maps) S.nm = some (es ++ [(.int .i64 x, .int .i64 1)]) := by rw [lk_same]; rfl
          have hg2 : getI (es ++ [(.int .i64 x, .int .i64 1)]) x = some 1 := by rw [getI_snoc him hg, if_pos rfl]
          obtain ⟨i, hfi, _, _⟩ := find_some him.snoc hg2
          refine step_rule (by exact st_lkpS rfl rfl rfl rfl hes2 hfi) ?_
          conv => whnf
          repeat (refine step_rule (by rfl) ?_; conv => whnf)
          refine ⟨k + 1, ⟨by omega, ?_, es ++ [(.int .i64 x, .int .i64 1)], x :: seen, hes2, him.snoc, fun a => ?_, ?_⟩, by omega⟩
          · rw [wrNat (by omega)]; rfl
          · rw [getI_snoc him hg, hget a]
            by_cases ha : a = x
            · subst ha; simp
            · simp [ha]
          · rw [hp, pairR, if_neg h0, if_neg (by simp [hns]; omega)]
      | some v =>
        have hsn : x ∈ seen := by
          rw [hget] at hg
          by_cases hm : x ∈ seen
          · exact hm
          · rw [if_neg hm] at hg; cases hg
        have hv : v = 1 := by rw [hget, if_pos hsn] at hg; cases hg; rfl
        subst hv
        obtain ⟨i, hfi, hka, hset⟩ := find_some him hg
        refine step_rule (by exact st_lkpS trivial rfl rfl rfl hes hfi) ?_
        conv => whnf
        repeat (refine step_rule (by rfl) ?_; conv => whnf)
        refine step_rule (by exact st_mupS trivial rfl rfl rfl rfl hes hfi hka) ?_
        conv => whnf
        repeat (refine step_rule (by rfl) ?_; conv => whnf)
        by_cases h2 : x ≥ n
        · rw [decide_eq_true h2]
          conv => whnf
          repeat (refine step_rule (by rfl) ?_; conv => whnf)
          refine ⟨_, rfl, ?_⟩
          have := hQ { S' with maps := (S.nm, es.set i (.int .i64 x, .int .i64 (wr .i64 (1 + 1)))) :: S'.maps }
          rw [hp, pairR, if_neg h0, if_pos (.inl h2)] at this
          exact this
        · rw [decide_eq_false h2]
          conv => whnf
          repeat (refine step_rule (by rfl) ?_; conv => whnf)
          have hes2 : lk ((S.nm, es.set i (AV.int .i64 x, AV.int .i64 (wr .i64 (1 + 1)))) :: S'.maps) S.nm = some (es.set i (.int .i64 x, .int .i64 2)) := by rw [lk_same]; rfl
          obtain ⟨i2, hfi2, _, _⟩ := find_some him.set (hset 2)
          refine step_rule (by exact st_lkpS rfl rfl rfl rfl hes2 hfi2) ?_
          conv => whnf
          repeat (refine step_rule (by rfl) ?_; conv => whnf)
          refine ⟨_, rfl, ?_⟩
          have := hQ { S' with maps := (S.nm, es.set i (.int .i64 x, .int .i64 (wr .i64 (1 + 1)))) :: S'.maps }
          rw [hp, pairR, if_neg h0, if_pos (.inr hsn)] at this
          exact this
  · rw [decide_eq_false h]
    conv => whnf
    repeat (refine step_rule (by rfl) ?_; conv => whnf)
    have hkl : k = xs.length := by simp [ints] at h; omega
    subst hkl
    rw [List.drop_length] at hp
    refine ⟨_, rfl, ?_⟩
    have := hQ S'
    rw [hp] at this
    exact this
def E23 (n : Int) (id : Nat) (off : Nat) (cap : Option Nat) (nl : Bool) (xs : List Int) (k : Nat) : Env :=
  [(0, .val (.sl 1 ⟨none, off, cap, nl⟩ (ints xs))), (1, .val (.int .i64 n)), (5, .val (.map id)), (6, .val (.int .i64 k))]

set_option maxHeartbeats 4000000 in
theorem refRight_wp {gt : GT} {C : CallT} (hm : MonoC C) (off : Nat) (cap : Option Nat) (nl : Bool) (xs : List Int) (hxl : xs.length < 9223372036854775808) (n : Int) (S : St) (Q : Res → St → Prop) (hQ : ∀ S', Q (.ret (.bool (pairR n xs []))) S') :
    wpF gt C F23 [.sl 1 ⟨none, off, cap, nl⟩ (ints xs), .int .i64 n] S Q := by
  refine ⟨rfl, ?_⟩
  conv => whnf
  repeat (refine step_rule (by rfl) ?_; conv => whnf)
  refine loop_rule hm (α := Nat) (fun k env S' => k ≤ xs.length ∧ env = E23 n S.nm off cap nl xs k ∧ ∃ es seen, lk S'.maps S.nm = some es ∧ IntMap es ∧ (∀ a, getI es a = if a ∈ seen then some 1 else none) ∧ pairR n xs [] = pairR n (xs.drop k) seen) (fun k => xs.length - k) ?_ (a := 0) ⟨Nat.zero_le _, rfl, [], [], lk_same _ _ _, (fun p hp => by cases hp), (fun a => by simp [getI]), rfl⟩
  rintro k env S' ⟨hk, rfl, es, seen, hes, him, hget, hp⟩
  conv => whnf
  repeat (refine step_rule (by rfl) ?_; conv => whnf)
  by_cases h : (k : Int) < (ints xs).length
  · rw [decide_eq_true h]
    conv => whnf
    repeat (refine step_rule (by rfl) ?_; conv => whnf)
    have hkl : k < xs.length := by simp [ints] at h; omega
    refine step_rule (by exact st_ia (k := k) rfl rfl (by simpa [ints] using hkl)) ?_
    conv => whnf
    repeat (refine step_rule (by rfl) ?_; conv => whnf)
    have hx : (ints xs)[k]? = some (.int .i64 xs[k]) := by simp [ints, hkl]
    refine step_rule (by exact st_ldEl (k := k) (v := .int .i64 xs[k]) rfl rfl hx rfl) ?_
    conv => whnf
    repeat (refine step_rule (by rfl) ?_; conv => whnf)
    have hdrop : xs.drop k = xs[k] :: xs.drop (k + 1) := (List.drop_eq_getElem_cons hkl)
    rw [hdrop] at hp
    generalize xs[k] = x at hp hx ⊢
    by_cases hx1 : x = -1
    · rw [show (x == -1) = true by simp [hx1]]
      conv => whnf
      repeat (refine step_rule (by rfl) ?_; conv => whnf)
      refine ⟨k + 1, ⟨by omega, ?_, es, seen, hes, him, hget, by rw [hp, pairR, if_pos (by omega), if_neg (by omega)]⟩, by omega⟩
      rw [wrNat (by omega)]; rfl
    · rw [show (x == -1) = false by simp [hx1]]
      conv => whnf
      repeat (refine step_rule (by rfl) ?_; conv => whnf)
      by_cases h0 : x < 0
      · rw [decide_eq_true h0]
        conv => whnf
        repeat (refine step_rule (by rfl) ?_; conv => whnf)
        refine ⟨_, rfl, ?_⟩
        have := hQ S'
        rw [hp, pairR, if_pos h0, if_pos (by omega)] at this
        exact this
      · rw [decide_eq_false h0]
        conv => whnf
        repeat (refine step_rule (by rfl) ?_; conv => whnf)
        by_cases h2 : x ≥ n
        · rw [decide_eq_true h2]
          conv => whnf
          repeat (refine step_rule (by rfl) ?_; conv => whnf)
          refine ⟨_, rfl, ?_⟩
          have := hQ S'
          rw [hp, pairR, if_neg h0, if_pos (.inl h2)] at this
          exact this
        · rw [decide_eq_false h2]
          conv => whnf
          repeat (refine step_rule (by rfl) ?_; conv => whnf)
          cases hg : getI es x with
          | none =>
            have hns : x ∉ seen := fun hm => by rw [hget, if_pos hm] at hg; cases hg
            have hfn := find_none him hg
            refine step_rule (by exact st_lkpN rfl rfl rfl rfl hes hfn) ?_
            conv => whnf
            repeat (refine step_rule (by rfl) ?_; conv => whnf)
            refine step_rule (by exact st_mupN trivial rfl rfl rfl rfl hes hfn) ?_
            conv => whnf
            repeat (refine step_rule (by rfl) ?_; conv => whnf)
            refine ⟨k + 1, ⟨by omega, ?_, es ++ [(.int .i64 x, .int .i64 1)], x :: seen, lk_same _ _ _, him.snoc, fun a => ?_, ?_⟩, by omega⟩
            · rw [wrNat (by omega)]; rfl
            · rw [getI_snoc him hg, hget a]
              by_cases ha : a = x
              · subst ha; simp
              · simp [ha]
            · rw [hp, pairR, if_neg h0, if_neg (by simp [hns]; omega)]
          | some v =>
            have hsn : x ∈ seen := by
              rw [hget] at hg
              by_cases hm : x ∈ seen
              · exact hm
              · rw [if_neg hm] at hg; cases hg
            have hv : v = 1 := by rw [hget, if_pos hsn] at hg; cases hg; rfl
            subst hv
            obtain ⟨i, hfi, hka, hset⟩ := find_some him hg
            refine step_rule (by exact st_lkpS rfl rfl rfl rfl hes hfi) ?_
            conv => whnf
            repeat (refine step_rule (by rfl) ?_; conv => whnf)
            refine ⟨_, rfl, ?_⟩
            have := hQ S'
            rw [hp, pairR, if_neg h0, if_pos (.inr hsn)] at this
            exact this
  · rw [decide_eq_false h]
    conv => whnf
    repeat (refine step_rule (by rfl) ?_; conv => whnf)
    have hkl : k = xs.length := by simp [ints] at h; omega
    subst hkl
    rw [List.drop_length] at hp
    refine ⟨_, rfl, ?_⟩
    have := hQ S'
    rw [hp] at this
    exact this

/-- the slice's beginning -/
theorem st_slHi {gt : GT} {d : Option Nat} {x hi : DOpd} {env : Env} {S : St} {off : Nat} {cap : Option Nat} {nl : Bool} {xs : List Int} {h : Nat} (hx : opd env x = some (.sl 1 ⟨none, off, cap, nl⟩ (ints xs))) (hh : (opd env hi).bind nat? = some h) (hl : h ≤ xs.length) :
    stepI gt ⟨d, .slA 1 x none (some hi) none, none⟩ env S = .done (putV d (.sl 1 ⟨none, off, cap.map (· - 0), nl⟩ (ints (xs.take h))) env) S := by
  have hb : bnds env (ints xs).length none (some hi) = some (0, h) := by
    simp only [bnds, hh, show Nat.ble 0 h = true from Nat.ble_eq_true_of_le (Nat.zero_le _), show Nat.ble h (ints xs).length = true from Nat.ble_eq_true_of_le (by simpa [ints] using hl), Bool.and_self, cond_true]
  simp only [stepI, stepO, hx, Nat.beq_refl, cond_true, hb, List.drop_zero, Nat.sub_zero, Nat.add_zero]
  simp only [ints, List.map_take]

set_option maxHeartbeats 4000000 in
theorem law_wp {gt : GT} {C : CallT} (hm : MonoC C) (h3 : ∀ S, C 3 [] S fun r S' => r = .ret (.bool true) ∧ S' = S)
    (h17 : ∀ off cap nl (xs : List Int) n S, xs.length < 9223372036854775808 → C 17 [.sl 1 ⟨none, off, cap, nl⟩ (ints xs), .int .i64 n] S fun r _ => r = .ret (.bool (pairR n xs [])))
    (h23 : ∀ off cap nl (xs : List Int) n S, xs.length < 9223372036854775808 → C 23 [.sl 1 ⟨none, off, cap, nl⟩ (ints xs), .int .i64 n] S fun r _ => r = .ret (.bool (pairR n xs [])))
    (off : Nat) (cap : Option Nat) (nl : Bool) (xs : List Int) (hxl : xs.length < 9223372036854775808) (n : Int) (S : St) :
    wpF gt C F5 [.sl 1 ⟨none, off, cap, nl⟩ (ints xs), .int .i64 n] S fun r _ => r = .ret (.bool true) := by
  refine ⟨rfl, ?_⟩
  conv => whnf
  repeat (refine step_rule (by rfl) ?_; conv => whnf)
  by_cases h : ((ints xs).length : Int) > 500
  · rw [decide_eq_true h]
    conv => whnf
    repeat (refine step_rule (by rfl) ?_; conv => whnf)
    have hl : 500 ≤ xs.length := by simp [ints] at h; omega
    refine step_rule (by exact st_slHi (h := 500) rfl rfl hl) ?_
    conv => whnf
    repeat (refine step_rule (by rfl) ?_; conv => whnf)
    refine call_rule (by rfl) ?_
    refine hm _ _ _ _ _ (h17 _ _ _ _ _ _ (by simp; omega)) ?_
    rintro r S1 rfl
    conv => whnf
    repeat (refine step_rule (by rfl) ?_; conv => whnf)
    refine call_rule (by rfl) ?_
    refine hm _ _ _ _ _ (h23 _ _ _ _ _ _ (by simp; omega)) ?_
    rintro r S2 rfl
    conv => whnf
    repeat (refine step_rule (by rfl) ?_; conv => whnf)
    rw [show (pairR n (List.take 500 xs) [] == pairR n (List.take 500 xs) []) = true by simp]
    conv => whnf
    repeat (refine step_rule (by rfl) ?_; conv => whnf)
    refine call_rule (by rfl) ?_
    refine hm _ _ _ _ _ (h3 _) ?_
    rintro r S3 ⟨rfl, rfl⟩
    conv => whnf
    repeat (refine step_rule (by rfl) ?_; conv => whnf)
    exact ⟨_, rfl, rfl⟩
  · rw [decide_eq_false h]
    conv => whnf
    repeat (refine step_rule (by rfl) ?_; conv => whnf)
    refine call_rule (by rfl) ?_
    refine hm _ _ _ _ _ (h17 _ _ _ _ _ _ hxl) ?_
    rintro r S1 rfl
    conv => whnf
    repeat (refine step_rule (by rfl) ?_; conv => whnf)
    refine call_rule (by rfl) ?_
    refine hm _ _ _ _ _ (h23 _ _ _ _ _ _ hxl) ?_
    rintro r S2 rfl
    conv => whnf
    repeat (refine step_rule (by rfl) ?_; conv => whnf)
    rw [show (pairR n xs [] == pairR n xs []) = true by simp]
    conv => whnf
    repeat (refine step_rule (by rfl) ?_; conv => whnf)
    refine call_rule (by rfl) ?_
    refine hm _ _ _ _ _ (h3 _) ?_
    rintro r S3 ⟨rfl, rfl⟩
    conv => whnf
    repeat (refine step_rule (by rfl) ?_; conv => whnf)
    exact ⟨_, rfl, rfl⟩
end Go.Dn
