/-
  What an instruction that may be is like; the number that it tells, for all ops at once.
-/
import Derived.Test.YtipllcepoijbiaaDoorD
namespace Go.Proofs.YtipllcepoijbiaaDoor
open Go.RowKit Go.Deep
set_option linter.unusedVariables false

theorem may_facts {x : I} {many : Int} (h : mayV x many = 0) : 1 ≤ x.o ∧ x.o ≤ 15 ∧ ∀ j, j < 4 → goodB (kindsL x.o.toNat) many x.n j = true := by
  simp only [mayV] at h
  by_cases h1 : x.o < 1 ∨ 15 < x.o
  · rw [if_pos h1] at h; exact absurd h (by decide)
  rw [if_neg h1] at h
  by_cases h2 : allB (kindsL x.o.toNat) many x.n = true
  · refine ⟨by omega, by omega, ?_⟩
    simp only [allB, Bool.and_eq_true] at h2
    intro j hj
    rcases (by omega : j = 0 ∨ j = 1 ∨ j = 2 ∨ j = 3) with rfl | rfl | rfl | rfl
    · exact h2.1.1.1
    · exact h2.1.1.2
    · exact h2.1.2
    · exact h2.2
  · rw [if_neg h2] at h; exact absurd h (by decide)
theorem may_cell {x : I} {many : Int} (h : mayV x many = 0) (j : Nat) (hj : j < (kindsL x.o.toNat).length) (hk : (kindsL x.o.toNat).getD j 0 = 99) : 0 ≤ x.n j ∧ x.n j < 8 := by
  have h4 := kindsL_len x.o.toNat
  have := (may_facts h).2.2 j (by omega)
  simp only [goodB] at this
  rw [if_pos hj, hk] at this
  simpa [rightB] using this
theorem may_two (x : I) (many : Int) : mayV x many = 0 ∨ mayV x many = 10 ∨ mayV x many = 15 := by
  simp only [mayV]
  split
  · exact .inr (.inr rfl)
  · split
    · exact .inl rfl
    · exact .inr (.inl rfl)

/-- Without places the length is nothing to it. -/
theorem may_free {x : I} (m1 m2 : Int) (h8 : x.o ≠ 8) (h9 : x.o ≠ 9) : mayV x m1 = mayV x m2 := by
  obtain ⟨o, a, b, c, d⟩ := x
  simp only at h8 h9
  simp only [mayV]
  by_cases h1 : o < 1 ∨ 15 < o
  · rw [if_pos h1, if_pos h1]
  rw [if_neg h1, if_neg h1]
  have hL : ∀ j, (kindsL o.toNat).getD j 0 ≠ 112 := by
    intro j
    rcases (by omega : o = 1 ∨ o = 2 ∨ o = 3 ∨ o = 4 ∨ o = 5 ∨ o = 6 ∨ o = 7 ∨ o = 10 ∨ o = 11 ∨ o = 12 ∨ o = 13 ∨ o = 14 ∨ o = 15) with rfl | rfl | rfl | rfl | rfl | rfl | rfl | rfl | rfl | rfl | rfl | rfl | rfl
    all_goals
      have h4 := kindsL_len
      rcases (by omega : j = 0 ∨ j = 1 ∨ j = 2 ∨ j = 3 ∨ 4 ≤ j) with rfl | rfl | rfl | rfl | hj
      · decide
      · decide
      · decide
      · decide
      · have h5 := h4
        rw [show List.getD _ j (0 : UInt8) = 0 from by simp [List.getD, List.getElem?_eq_none (Nat.le_trans (h4 _) hj)]]
        decide
  have hg : ∀ n j, goodB (kindsL o.toNat) m1 n j = goodB (kindsL o.toNat) m2 n j := by
    intro n j
    simp only [goodB]
    split
    · simp only [rightB]
      have h2 : ((kindsL o.toNat).getD j 0).toNat ≠ 112 := fun e => hL j (UInt8.toNat_inj.1 (by simpa using e))
      have h3 : (((kindsL o.toNat).getD j 0).toNat : Int) ≠ 112 := by omega
      rw [if_neg h3, if_neg h3]
    · rfl
  rw [show allB (kindsL o.toNat) m1 (I.n ⟨o, a, b, c, d⟩) = allB (kindsL o.toNat) m2 (I.n ⟨o, a, b, c, d⟩) from by simp only [allB, hg]]

theorem told_any {w : World} {mb : Nat} {e : Nat → Int} {pv : Value} {fan : Int} {cs : Nat → Int} {pl : Int} {sv : Value} (h : MAt w mb e pv fan cs pl sv) {o a b c d many : Int} (hm : mayV ⟨o, a, b, c, d⟩ many = 0) (h8 : o ≠ 8) (h9 : o ≠ 9) (h14 : o ≠ 14) (h15 : o ≠ 15) :
    Calls Tryd.prog 13 #[.pointer (some ⟨mb, 0, none⟩), .agg #[.int .i64 o, .int .i64 a, .int .i64 b, .int .i64 c, .int .i64 d]] w fun r w' => r = .returned (.int .i64 (toldV ⟨o, a, b, c, d⟩ cs e)) ∧ Only [] w w' := by
  obtain ⟨h1, h2, _⟩ := may_facts hm
  have hcb := may_cell hm 1
  have hcc := may_cell hm 2
  simp only [I.n] at h1 h2 hcb hcc
  rcases (by omega : o = 1 ∨ o = 2 ∨ o = 3 ∨ o = 4 ∨ o = 5 ∨ o = 6 ∨ o = 7 ∨ o = 10 ∨ o = 11 ∨ o = 12 ∨ o = 13) with rfl | rfl | rfl | rfl | rfl | rfl | rfl | rfl | rfl | rfl | rfl
  · exact told1 h
  · have hb := hcb (by decide) (by decide)
    obtain ⟨b, rfl⟩ : ∃ k : Nat, b = k := ⟨b.toNat, by simp at hb; omega⟩
    exact told2 h (by simp at hb; omega)
  · have hb := hcb (by decide) (by decide)
    have hc := hcc (by decide) (by decide)
    obtain ⟨b, rfl⟩ : ∃ k : Nat, b = k := ⟨b.toNat, by simp at hb; omega⟩
    obtain ⟨c, rfl⟩ : ∃ k : Nat, c = k := ⟨c.toNat, by simp at hc; omega⟩
    exact told3 h (by simp at hb; omega) (by simp at hc; omega)
  · have hb := hcb (by decide) (by decide)
    have hc := hcc (by decide) (by decide)
    obtain ⟨b, rfl⟩ : ∃ k : Nat, b = k := ⟨b.toNat, by simp at hb; omega⟩
    obtain ⟨c, rfl⟩ : ∃ k : Nat, c = k := ⟨c.toNat, by simp at hc; omega⟩
    exact told4 h (by simp at hb; omega) (by simp at hc; omega)
  · have hb := hcb (by decide) (by decide)
    have hc := hcc (by decide) (by decide)
    obtain ⟨b, rfl⟩ : ∃ k : Nat, b = k := ⟨b.toNat, by simp at hb; omega⟩
    obtain ⟨c, rfl⟩ : ∃ k : Nat, c = k := ⟨c.toNat, by simp at hc; omega⟩
    exact told5 h (by simp at hb; omega) (by simp at hc; omega)
  · have hb := hcb (by decide) (by decide)
    have hc := hcc (by decide) (by decide)
    obtain ⟨b, rfl⟩ : ∃ k : Nat, b = k := ⟨b.toNat, by simp at hb; omega⟩
    obtain ⟨c, rfl⟩ : ∃ k : Nat, c = k := ⟨c.toNat, by simp at hc; omega⟩
    exact told6 h (by simp at hb; omega) (by simp at hc; omega)
  · have hb := hcb (by decide) (by decide)
    have hc := hcc (by decide) (by decide)
    obtain ⟨b, rfl⟩ : ∃ k : Nat, b = k := ⟨b.toNat, by simp at hb; omega⟩
    obtain ⟨c, rfl⟩ : ∃ k : Nat, c = k := ⟨c.toNat, by simp at hc; omega⟩
    exact told7 h (by simp at hb; omega) (by simp at hc; omega)
  · exact told10 h
  · exact told11 h
  · exact told12 h
  · exact told13 h
end Go.Proofs.YtipllcepoijbiaaDoor
