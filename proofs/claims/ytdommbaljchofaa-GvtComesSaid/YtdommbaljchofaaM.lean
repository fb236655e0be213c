/-
  The times that are open: a map of the program as a plain list; the least of times.
-/
import Derived.Test.YtdommbaljchofaaW
namespace Go.Proofs.Ytdommbaljchofaa
open Go.RowKit Go.Maps

abbrev Never : Int := 1073741825
abbrev i64 (n : Int) : DataW Unit := .lit (.int .i64 n)

/-- The map's datum D reads as the list M of numbers and times. -/
structure Reads (D : DataW Unit) (M : List (Int × Int)) : Prop where
  tidy : Tidy D
  has : ∀ x : Int, Maps.has D (.int .i64 x) = M.any (fun p => p.1 == x)
  at_ : ∀ p ∈ M, ∀ z, D.atKey (.int .i64 p.1) z = i64 p.2
  nd : M.Pairwise (fun a b => a.1 ≠ b.1)
  size : Maps.size D = M.length

theorem key_ne {x y : Int} (h : x ≠ y) : (Lit.int .i64 x) ≠ .int .i64 y := by
  intro e
  injection e with _ e
  exact h e
theorem Reads.empty : Reads (.map []) [] := ⟨tidy_empty, fun x => rfl, by simp, by simp, rfl⟩
theorem Reads.put {D : DataW Unit} {M : List (Int × Int)} (h : Reads D M) {x v : Int} (hx : M.any (fun p => p.1 == x) = false) : Reads (D.put (.int .i64 x) (i64 v)) (M ++ [(x, v)]) := by
  have hk : WideAt.IsKeyLit (.int .i64 x) := trivial
  have hne : ∀ p ∈ M, p.1 ≠ x := fun p hp e => by
    have h1 : M.any (fun p => p.1 == x) = true := List.any_eq_true.2 ⟨p, hp, by simp [e]⟩
    rw [h1] at hx
    cases hx
  refine ⟨h.tidy.put hk _, fun y => ?_, fun p hp z => ?_, ?_, ?_⟩
  · by_cases e : y = x
    · subst e
      rw [has_put_same h.tidy.isMap hk]
      simp
    · rw [has_put_other (key_ne e), h.has]
      simp [Ne.symm e]
  · rcases List.mem_append.1 hp with hp | hp
    · rw [atKey_put_other (key_ne (hne p hp))]
      exact h.at_ p hp z
    · have e : p = (x, v) := by simpa using hp
      subst e
      exact atKey_put_same h.tidy.isMap hk _ _
  · refine List.pairwise_append.2 ⟨h.nd, by simp, fun p hp b hb => ?_⟩
    have e : b = (x, v) := by simpa using hb
    rw [e]
    exact hne p hp
  · rw [size_put h.tidy, h.has, hx, h.size]
    simp
theorem any_false_of {M : List (Int × Int)} {x : Int} : M.any (fun p => p.1 == x) = false ↔ ∀ p ∈ M, p.1 ≠ x := by
  rw [List.any_eq_false]
  simp
theorem filter_len {M : List (Int × Int)} (hnd : M.Pairwise (fun a b => a.1 ≠ b.1)) {x : Int} (hx : M.any (fun p => p.1 == x) = true) : (M.filter (fun p => p.1 != x)).length + 1 = M.length := by
  induction M with
  | nil => simp at hx
  | cons p M ih =>
    have hc := List.pairwise_cons.1 hnd
    by_cases e : p.1 = x
    · have hall : ∀ q ∈ M, (q.1 != x) = true := fun q hq => by
        have := hc.1 q hq
        simp
        omega
      rw [List.filter_cons, if_neg (by simp [e]), List.filter_eq_self.2 hall]
      rfl
    · have hx' : M.any (fun p => p.1 == x) = true := by simpa [e] using hx
      rw [List.filter_cons, if_pos (by simpa using e)]
      simp only [List.length_cons, ih hc.2 hx']
theorem Reads.del {D : DataW Unit} {M : List (Int × Int)} (h : Reads D M) {x : Int} (hx : M.any (fun p => p.1 == x) = true) : Reads (D.del (.int .i64 x)) (M.filter (fun p => p.1 != x)) := by
  refine ⟨h.tidy.del _, fun y => ?_, fun p hp z => ?_, h.nd.filter _, ?_⟩
  · by_cases e : y = x
    · subst e
      rw [has_del_same]
      symm
      rw [any_false_of]
      intro p hp
      have := (List.mem_filter.1 hp).2
      simpa using this
    · rw [has_del_other (key_ne e), h.has]
      rw [Bool.eq_iff_iff, List.any_eq_true, List.any_eq_true]
      constructor
      · rintro ⟨p, hp, hpe⟩
        have hpe' : p.1 = y := by simpa using hpe
        exact ⟨p, List.mem_filter.2 ⟨hp, by simp; omega⟩, hpe⟩
      · rintro ⟨p, hp, hpe⟩
        exact ⟨p, (List.mem_filter.1 hp).1, hpe⟩
  · have hm := List.mem_filter.1 hp
    have hne : p.1 ≠ x := by simpa using hm.2
    rw [atKey_del_other (key_ne hne)]
    exact h.at_ p hm.1 z
  · have h1 := size_del (k := .int .i64 x) h.tidy
    rw [h.has, hx, h.size] at h1
    have h2 := filter_len h.nd hx
    simp at h1
    omega
/-- What a look-up finds. -/
theorem Reads.look {D : DataW Unit} {M : List (Int × Int)} (h : Reads D M) {x c : Int} (hx : M.any (fun p => p.1 == x) = true) (hc : D.atKey (.int .i64 x) (i64 0) = i64 c) : (x, c) ∈ M := by
  obtain ⟨p, hp, hpe⟩ := List.any_eq_true.1 hx
  have e : p.1 = x := by simpa using hpe
  have h1 := h.at_ p hp (i64 0)
  rw [e, hc] at h1
  have h2 : c = p.2 := by injection h1 with h1; injection h1
  rw [h2, ← e]
  exact hp
theorem uniq {M : List (Int × Int)} (hnd : M.Pairwise (fun a b => a.1 ≠ b.1)) {x a b : Int} (ha : (x, a) ∈ M) (hb : (x, b) ∈ M) : a = b := by
  induction M with
  | nil => simp at ha
  | cons p M ih =>
    have hc := List.pairwise_cons.1 hnd
    rcases List.mem_cons.1 ha with ha | ha <;> rcases List.mem_cons.1 hb with hb | hb
    · rw [← ha] at hb; injection hb with _ hb; exact hb.symm
    · exact absurd (by rw [← ha]) (hc.1 _ hb)
    · exact absurd (by rw [← hb]) (hc.1 _ ha)
    · exact ih hc.2 ha hb

/-! ### The least of times -/
/-- m is the least of Never and the times of those numbers for which s says yes. -/
def Least (M : List (Int × Int)) (s : Int → Bool) (m : Int) : Prop :=
  m ≤ Never ∧ (∀ p ∈ M, s p.1 = true → m ≤ p.2) ∧ (m = Never ∨ ∃ p ∈ M, s p.1 = true ∧ m = p.2)
def leastOf (l : List Int) : Int := l.foldl min Never
theorem foldl_min_le (l : List Int) : ∀ a : Int, l.foldl min a ≤ a ∧ (∀ x ∈ l, l.foldl min a ≤ x) ∧ (l.foldl min a = a ∨ l.foldl min a ∈ l) := by
  induction l with
  | nil => intro a; simp
  | cons y l ih =>
    intro a
    obtain ⟨h1, h2, h3⟩ := ih (min a y)
    simp only [List.foldl_cons]
    refine ⟨by omega, fun x hx => ?_, ?_⟩
    · rcases List.mem_cons.1 hx with rfl | hx
      · omega
      · exact h2 x hx
    · rcases h3 with h3 | h3
      · rcases Int.le_total a y with h | h
        · left; rw [h3]; omega
        · right; rw [h3, Int.min_eq_right h]; exact List.mem_cons_self
      · exact .inr (List.mem_cons_of_mem _ h3)
theorem leastOf_le (l : List Int) : leastOf l ≤ Never := (foldl_min_le l Never).1
theorem leastOf_mem {l : List Int} {x : Int} (h : x ∈ l) : leastOf l ≤ x := (foldl_min_le l Never).2.1 x h
theorem leastOf_is (l : List Int) : leastOf l = Never ∨ leastOf l ∈ l := (foldl_min_le l Never).2.2
theorem leastOf_eq {l : List Int} {m : Int} (h1 : m ≤ Never) (h2 : ∀ x ∈ l, m ≤ x) (h3 : m = Never ∨ m ∈ l) : leastOf l = m := by
  have a := leastOf_le l
  have c := leastOf_is l
  have d : ∀ x ∈ l, leastOf l ≤ x := fun x hx => leastOf_mem hx
  rcases h3 with h3 | h3 <;> rcases c with c | c
  · omega
  · have := h2 _ c; omega
  · have := d _ h3; omega
  · have := d _ h3; have := h2 _ c; omega
theorem leastOf_snoc (l : List Int) (x : Int) : leastOf (l ++ [x]) = min (leastOf l) x := by simp [leastOf, List.foldl_append]
theorem leastOf_append (l k : List Int) : leastOf (l ++ k) = min (leastOf l) (leastOf k) := by
  refine leastOf_eq ?_ ?_ ?_
  · have := leastOf_le l; omega
  · intro x hx
    rcases List.mem_append.1 hx with hx | hx
    · have := leastOf_mem hx; omega
    · have := leastOf_mem hx; omega
  · have h1 := leastOf_is l
    have h2 := leastOf_is k
    rcases Int.le_total (leastOf l) (leastOf k) with h | h
    · rw [Int.min_eq_left h]
      rcases h1 with h1 | h1
      · exact .inl h1
      · exact .inr (List.mem_append.2 (.inl h1))
    · rw [Int.min_eq_right h]
      rcases h2 with h2 | h2
      · exact .inl h2
      · exact .inr (List.mem_append.2 (.inr h2))
theorem Least.start (M : List (Int × Int)) : Least M (fun _ => false) Never := ⟨Int.le_refl _, by simp, .inl rfl⟩
theorem Least.all {M : List (Int × Int)} {s : Int → Bool} {m : Int} (h : Least M s m) (hs : ∀ p ∈ M, s p.1 = true) : m = leastOf (M.map (·.2)) := by
  symm
  refine leastOf_eq h.1 (fun x hx => ?_) ?_
  · obtain ⟨p, hp, rfl⟩ := List.mem_map.1 hx
    exact h.2.1 p hp (hs p hp)
  · rcases h.2.2 with h3 | ⟨p, hp, _, rfl⟩
    · exact .inl h3
    · exact .inr (List.mem_map.2 ⟨p, hp, rfl⟩)
theorem Least.step {M : List (Int × Int)} {s : Int → Bool} {m x c : Int} (h : Least M s m) (hnd : M.Pairwise (fun a b => a.1 ≠ b.1)) (hx : (x, c) ∈ M) : Least M (fun y => s y || y == x) (min m c) := by
  refine ⟨by have := h.1; omega, fun p hp hs => ?_, ?_⟩
  · by_cases e : p.1 = x
    · have : p.2 = c := uniq hnd (by rw [← e]; exact hp) hx
      omega
    · have := h.2.1 p hp (by simpa [e] using hs)
      omega
  · rcases Int.le_total m c with hmc | hmc
    · rw [Int.min_eq_left hmc]
      rcases h.2.2 with h3 | ⟨p, hp, hs, rfl⟩
      · exact .inl h3
      · exact .inr ⟨p, hp, by simp [hs], rfl⟩
    · rw [Int.min_eq_right hmc]
      exact .inr ⟨(x, c), hx, by simp, rfl⟩
theorem Least.congr {M : List (Int × Int)} {s s' : Int → Bool} {m : Int} (h : Least M s m) (he : ∀ p ∈ M, s p.1 = s' p.1) : Least M s' m :=
  ⟨h.1, fun p hp hs => h.2.1 p hp (by rw [he p hp]; exact hs), by
    rcases h.2.2 with h3 | ⟨p, hp, hs, rfl⟩
    · exact .inl h3
    · exact .inr ⟨p, hp, by rw [← he p hp]; exact hs, rfl⟩⟩
end Go.Proofs.Ytdommbaljchofaa
