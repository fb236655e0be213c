/-
  What the statement SlabKeeps keeps: one thing that stays as it is, whatever is done with others.
-/
import Derived.Test.YtegnbodolkaelaaA
import Derived.Test.YtegnbodolkaelaaH
namespace Go.Proofs.Ytegnbodolkaelaa
open Go.RowKit Go.Deep
set_option linter.unusedVariables false

/-- So many different numbers below n are no more than n. -/
theorem few_below : ∀ (n m : Nat) (f : Nat → Nat), (∀ j, j < m → f j < n) → (∀ j k, j < m → k < m → f j = f k → j = k) → m ≤ n := by
  intro n
  induction n with
  | zero =>
    intro m f h1 _
    rcases Nat.eq_zero_or_pos m with h | h
    · omega
    · exact absurd (h1 0 h) (by omega)
  | succ n ih =>
    intro m f h1 h2
    by_cases hex : ∃ j, j < m ∧ f j = n
    · obtain ⟨j0, hj0, hf0⟩ := hex
      have := ih (m - 1) (fun j => if j = j0 then f (m - 1) else f j) (fun j hj => by
        by_cases e : j = j0
        · simp only [e, if_true]
          have h3 := h1 (m - 1) (by omega)
          have h4 : f (m - 1) ≠ n := fun e' => by
            have := h2 (m - 1) j0 (by omega) hj0 (by rw [e', hf0])
            omega
          omega
        · simp only [if_neg e]
          have h3 := h1 j (by omega)
          have h4 : f j ≠ n := fun e' => e (h2 j j0 (by omega) hj0 (by rw [e', hf0]))
          omega) (fun j k hj hk he => by
        by_cases e : j = j0 <;> by_cases e' : k = j0
        · omega
        · simp only [e, if_true, if_neg e'] at he
          have := h2 (m - 1) k (by omega) (by omega) he
          omega
        · simp only [e', if_true, if_neg e] at he
          have := h2 j (m - 1) (by omega) (by omega) he
          omega
        · simp only [if_neg e, if_neg e'] at he
          exact h2 j k (by omega) (by omega) he)
      omega
    · have := ih m f (fun j hj => by
        have h3 := h1 j hj
        have h4 : f j ≠ n := fun e => hex ⟨j, hj, e⟩
        omega) h2
      omega

theorem Sl.Inv.room {S : Sl} (h : S.Inv) {i : Nat} (hi : i < S.n) (hc : S.cl i ≠ 0) : S.m < S.n := by
  have hne : ∀ j, j < S.m → S.fr j ≠ i := fun j hj e => hc (by rw [← e]; exact h.cl0 j hj)
  have := few_below S.n (S.m + 1) (upd S.fr S.m i) (fun j hj => by
    by_cases e : j = S.m
    · rw [e, upd_same]; exact hi
    · rw [upd_other _ _ e]; exact h.fr j (by omega)) (fun j k hj hk he => by
    by_cases e : j = S.m <;> by_cases e' : k = S.m
    · omega
    · rw [e, upd_same, upd_other _ _ e'] at he
      exact absurd he.symm (hne k (by omega))
    · rw [e', upd_same, upd_other _ _ e] at he
      exact absurd he (hne j (by omega))
    · rw [upd_other _ _ e, upd_other _ _ e'] at he
      exact h.inj j k (by omega) (by omega) he)
  omega

/-- The slab holds the thing x1 of the class x0 in its slot 0, for the first time. -/
structure KI (n k : Nat) (x0 x1 : Int) (S : Sl) : Prop where
  inv : S.Inv
  bd : S.Bd ((k : Int) + 1)
  n : S.n = n
  r : S.res = 1
  c : S.cl 0 = x0
  t : S.tn 0 = 1
  v : S.vl 0 = x1

theorem KI.start {n : Nat} {x0 x1 : Int} (h1 : 2 ≤ n) (h2 : n ≤ 40) (c1 : 1 ≤ x0) (c4 : x0 ≤ 4) : KI n 0 x0 x1 ((Sl.new n 1).taken x0 x1) := by
  have hz : (Sl.new n 1).fr ((Sl.new n 1).m - 1) = 0 := by simp only [Sl.new]; omega
  refine ⟨(Sl.Inv.new 1 (by omega) (by omega)).taken x0 x1 c1 c4 (by simp only [Sl.new]; omega), by simpa using (Sl.Bd.new n 1).taken x0 x1, rfl, rfl, ?_, ?_, ?_⟩
  · simp only [Sl.taken, hz, upd_same]
  · simp only [Sl.taken, hz, upd_same]; rfl
  · simp only [Sl.taken, hz, upd_same]
theorem KI.skip {n k : Nat} {x0 x1 : Int} {S : Sl} (h : KI n k x0 x1 S) : KI n (k + 1) x0 x1 S := ⟨h.inv, h.bd.more (by omega), h.n, h.r, h.c, h.t, h.v⟩
theorem KI.ne {n k : Nat} {x0 x1 : Int} {S : Sl} (h : KI n k x0 x1 S) (c1 : 1 ≤ x0) (hm : 0 < S.m) : S.fr (S.m - 1) ≠ 0 := fun e => by
  have := h.inv.cl0 (S.m - 1) (by omega)
  rw [e, h.c] at this
  omega
theorem KI.take {n k : Nat} {x0 x1 : Int} {S : Sl} (h : KI n k x0 x1 S) (c1 : 1 ≤ x0) {c v : Int} (h1 : 1 ≤ c) (h4 : c ≤ 4) (hm : 0 < S.m) : KI n (k + 1) x0 x1 (S.taken c v) := by
  have hne := (h.ne c1 hm).symm
  refine ⟨h.inv.taken c v h1 h4 hm, by have := h.bd.taken c v; exact_mod_cast this, h.n, h.r, ?_, ?_, ?_⟩
  · simp only [Sl.taken]; rw [upd_other _ _ hne]; exact h.c
  · simp only [Sl.taken]; rw [upd_other _ _ hne]; exact h.t
  · simp only [Sl.taken]; rw [upd_other _ _ hne]; exact h.v
theorem KI.free {n k : Nat} {x0 x1 : Int} {S : Sl} (h : KI n k x0 x1 S) {i : Nat} (hi : i < n) (hi0 : i ≠ 0) (hc : S.cl i ≠ 0) : KI n (k + 1) x0 x1 (S.freed i) := by
  have hin : i < S.n := by rw [h.n]; exact hi
  refine ⟨h.inv.freed i hin hc (h.inv.room hin hc), by have := h.bd.freed i; exact_mod_cast this, h.n, h.r, ?_, h.t, ?_⟩
  · simp only [Sl.freed]; rw [upd_other _ _ hi0.symm]; exact h.c
  · simp only [Sl.freed]; rw [upd_other _ _ hi0.symm]; exact h.v
theorem KI.put {n k : Nat} {x0 x1 : Int} {S : Sl} (h : KI n k x0 x1 S) {i : Nat} {v : Int} (hi0 : i ≠ 0) : KI n (k + 1) x0 x1 (S.put i v) := by
  refine ⟨h.inv.put i v, (h.bd.put i v).more (by omega), h.n, h.r, h.c, h.t, ?_⟩
  simp only [Sl.put]; rw [upd_other _ _ hi0.symm]; exact h.v

section
variable {w : World} {sb lb fb cap n k : Nat} {x0 x1 : Int} {S : Sl}
/-- What Take leaves. -/
def TakeK (w : World) (sb lb fb cap n k : Nat) (x0 x1 : Int) (S : Sl) (e : Ending) (w' : World) : Prop :=
  (∃ f : Int, f ≠ 0 ∧ e = .returned (.tuple #[.agg #[.int .i64 0, .int .i64 0], .int .i64 f]) ∧ At w' sb lb fb cap S ∧ Only [sb, lb, fb] w w') ∨
  ∃ (i : Nat) (t : Int) (S' : Sl), i < n ∧ i ≠ 0 ∧ e = .returned (.tuple #[.agg #[.int .i64 i, .int .i64 t], .int .i64 0]) ∧ At w' sb lb fb cap S' ∧ KI n (k + 1) x0 x1 S' ∧ Only [sb, lb, fb] w w'
theorem take_keep {c v : Int} {u : Bool} (hA : At w sb lb fb cap S) (hK : KI n k x0 x1 S) (c1 : 1 ≤ x0) (hk : k ≤ 60) :
    Calls Try.prog 9 #[.pointer (some ⟨sb, 0, none⟩), .int .i64 c, .bool u, .int .i64 v] w fun e w' => TakeK w sb lb fb cap n k x0 x1 S e w' := by
  by_cases hc : c < 1 ∨ 4 < c
  · exact (take_arg hA hc).mono fun e w' ⟨he, ho⟩ => .inl ⟨1, by omega, he, hA.only0 ho, ho.mono (by simp)⟩
  · by_cases hf : S.m = 0 ∨ (u = false ∧ (S.m : Int) ≤ S.res)
    · exact (take_full hA (by omega) (by omega) hf).mono fun e w' ⟨he, ho⟩ => .inl ⟨11, by omega, he, hA.only0 ho, ho.mono (by simp)⟩
    · obtain ⟨q, rfl⟩ : ∃ q : Nat, c = (q : Int) := ⟨c.toNat, by omega⟩
      have hm : 0 < S.m := by omega
      have hu : u = true ∨ S.res < S.m := by
        cases u with
        | true => exact .inl rfl
        | false => exact .inr (by simp at hf; omega)
      refine (take_ok (k := q) (v := v) (u := u) hA hK.inv hK.bd (by omega) (by omega) (by omega) hm hu).mono fun e w' ⟨he, h1, h2⟩ => .inr ⟨_, _, _, ?_, hK.ne c1 hm, he, h1, hK.take c1 (by omega) (by omega) hm, h2⟩
      rw [← hK.n]
      exact hK.inv.fr _ (by omega)
/-- What Free leaves. -/
def FreeK (w : World) (sb lb fb cap n k : Nat) (x0 x1 : Int) (e : Ending) (w' : World) : Prop :=
  ∃ (a b : Int) (S' : Sl), e = .returned (.tuple #[.int .i64 a, .int .i64 b]) ∧ At w' sb lb fb cap S' ∧ KI n (k + 1) x0 x1 S' ∧ Only [sb, lb, fb] w w'
theorem free_keep {i : Nat} {t : Int} (hA : At w sb lb fb cap S) (hK : KI n k x0 x1 S) (hi : i < n) (hi0 : i ≠ 0) (hk : k ≤ 60) :
    Calls Try.prog 10 #[.pointer (some ⟨sb, 0, none⟩), .agg #[.int .i64 i, .int .i64 t]] w fun e w' => FreeK w sb lb fb cap n k x0 x1 e w' := by
  have hin : i < S.n := by rw [hK.n]; exact hi
  by_cases hs : S.cl i = 0 ∨ S.tn i ≠ t
  · exact (free_stale hA hK.inv.n2 (.inr ⟨by omega, by omega, by simpa using hs⟩)).mono fun e w' ⟨he, ho⟩ => ⟨_, _, S, he, hA.only0 ho, hK.skip, ho.mono (by simp)⟩
  · have hc : S.cl i ≠ 0 := by omega
    have ht : S.tn i = t := by omega
    subst ht
    have h4 := hK.inv.cl4 i
    obtain ⟨q, hq⟩ : ∃ q : Nat, S.cl i = (q : Int) := ⟨(S.cl i).toNat, by omega⟩
    exact (free_ok (i := i) (k := q) hA hK.inv.n2 hK.bd (by omega) hin hq (by omega) (by omega) (hK.inv.room hin hc)).mono fun e w' ⟨he, h1, h2⟩ => ⟨_, _, _, he, h1, hK.free hi hi0 hc, h2⟩
/-- What Set leaves. -/
def SetK (w : World) (sb lb fb cap n k : Nat) (x0 x1 : Int) (e : Ending) (w' : World) : Prop :=
  ∃ (b : Int) (S' : Sl), e = .returned (.int .i64 b) ∧ At w' sb lb fb cap S' ∧ KI n (k + 1) x0 x1 S' ∧ Only [sb, lb, fb] w w'
theorem set_keep {i : Nat} {t v : Int} (hA : At w sb lb fb cap S) (hK : KI n k x0 x1 S) (hi : i < n) (hi0 : i ≠ 0) :
    Calls Try.prog 14 #[.pointer (some ⟨sb, 0, none⟩), .agg #[.int .i64 i, .int .i64 t], .int .i64 v] w fun e w' => SetK w sb lb fb cap n k x0 x1 e w' := by
  have hin : i < S.n := by rw [hK.n]; exact hi
  by_cases hs : S.cl i = 0 ∨ S.tn i ≠ t
  · exact (set_stale hA hK.inv.n2 (.inr ⟨by omega, by omega, by simpa using hs⟩)).mono fun e w' ⟨he, ho⟩ => ⟨_, S, he, hA.only0 ho, hK.skip, ho.mono (by simp)⟩
  · have hc : S.cl i ≠ 0 := by omega
    have ht : S.tn i = t := by omega
    subst ht
    exact (set_ok (i := i) hA hK.inv.n2 hin hc).mono fun e w' ⟨he, h1, h2⟩ => ⟨_, _, he, h1, hK.put hi0, h2⟩
theorem get_keep (hA : At w sb lb fb cap S) (hK : KI n k x0 x1 S) (c1 : 1 ≤ x0) :
    Calls Try.prog 13 #[.pointer (some ⟨sb, 0, none⟩), .agg #[.int .i64 0, .int .i64 1]] w fun e w' => e = .returned (.tuple #[.int .i64 x1, .int .i64 0]) ∧ Only [] w w' := by
  have h := get_ok (i := 0) hA hK.inv.n2 (by have := hK.inv.n1; omega) (by rw [hK.c]; omega)
  rw [hK.t, hK.v] at h
  exact h
theorem class_keep (hA : At w sb lb fb cap S) (hK : KI n k x0 x1 S) (c1 : 1 ≤ x0) :
    Calls Try.prog 15 #[.pointer (some ⟨sb, 0, none⟩), .agg #[.int .i64 0, .int .i64 1]] w fun e w' => e = .returned (.tuple #[.int .i64 x0, .int .i64 0]) ∧ Only [] w w' := by
  have h := class_ok (i := 0) hA hK.inv.n2 (by have := hK.inv.n1; omega) (by rw [hK.c]; omega)
  rw [hK.t, hK.c] at h
  exact h
theorem free_last (hA : At w sb lb fb cap S) (hK : KI n k x0 x1 S) (c1 : 1 ≤ x0) (hk : k ≤ 60) :
    Calls Try.prog 10 #[.pointer (some ⟨sb, 0, none⟩), .agg #[.int .i64 0, .int .i64 1]] w fun e w' => e = .returned (.tuple #[.int .i64 x1, .int .i64 0]) ∧ Only [sb, lb, fb] w w' := by
  have hc : S.cl 0 ≠ 0 := by rw [hK.c]; omega
  have h4 := hK.inv.cl4 0
  have h0 : 0 < S.n := hK.inv.n1
  obtain ⟨q, hq⟩ : ∃ q : Nat, S.cl 0 = (q : Int) := ⟨(S.cl 0).toNat, by omega⟩
  have h := free_ok (i := 0) (k := q) hA hK.inv.n2 hK.bd (by omega) h0 hq (by omega) (by omega) (hK.inv.room h0 hc)
  rw [hK.t, hK.v] at h
  exact h.mono fun e w' ⟨he, _, h2⟩ => ⟨he, h2⟩
theorem take_first (hA : At w sb lb fb cap (Sl.new n 1)) (h1 : 2 ≤ n) (h2 : n ≤ 40) (c1 : 1 ≤ x0) (c4 : x0 ≤ 4) :
    Calls Try.prog 9 #[.pointer (some ⟨sb, 0, none⟩), .int .i64 x0, .bool true, .int .i64 x1] w fun e w' =>
      e = .returned (.tuple #[.agg #[.int .i64 0, .int .i64 1], .int .i64 0]) ∧ At w' sb lb fb cap ((Sl.new n 1).taken x0 x1) ∧ Only [sb, lb, fb] w w' := by
  obtain ⟨q, rfl⟩ : ∃ q : Nat, x0 = (q : Int) := ⟨x0.toNat, by omega⟩
  have h := take_ok (k := q) (v := x1) (u := true) hA (Sl.Inv.new 1 (by omega) (by omega)) (Sl.Bd.new n 1) (by omega) (by omega) (by omega) (by simp only [Sl.new]; omega) (.inl rfl)
  have hz : (Sl.new n 1).fr ((Sl.new n 1).m - 1) = 0 := by simp only [Sl.new]; omega
  have ht : (Sl.new n 1).tn 0 = 0 := rfl
  rw [hz, ht] at h
  exact h
end
end Go.Proofs.Ytegnbodolkaelaa
