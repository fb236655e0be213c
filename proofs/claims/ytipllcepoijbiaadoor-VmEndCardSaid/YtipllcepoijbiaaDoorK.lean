/-
  A step, in one word; a run as numbers.
-/
import Derived.Test.YtipllcepoijbiaaDoorJ
namespace Go.Proofs.YtipllcepoijbiaaDoor
open Go.RowKit Go.Deep
set_option linter.unusedVariables false

/-- One step: none at the end, at a stop, and at what may not be. -/
def stepV (p : List I) (e : Nat → Int) (fan : Int) (s : S) : Option S :=
  match p[s.pl]? with
  | none => none
  | some x => if mayV x (p.length : Int) = 0 ∧ x.o ≠ 15 then some (doV x e fan s) else none
/-- A program without jumps, up to its end or its first stop, at K. -/
structure Still (p : List I) (K : Nat) : Prop where
  j : ∀ i x, p[i]? = some x → i < K → x.o ≠ 8 ∧ x.o ≠ 9
  s : ∀ x, p[K]? = some x → x.o = 15
  l : K ≤ p.length
theorem doV_pl (x : I) (e : Nat → Int) (fan : Int) (s : S) : (doV x e fan s).pl = s.pl + 1 := by
  simp only [doV]; split <;> rfl
theorem doV_len (x : I) (e : Nat → Int) (fan : Int) (s : S) : (doV x e fan s).L.length ≤ s.L.length + 1 := by
  simp only [doV]
  split
  · simp only
    split
    · simp
    · omega
  · simp
theorem step_pl {p : List I} {e : Nat → Int} {fan : Int} {s s' : S} {K : Nat} (hK : Still p K) (hpl : s.pl ≤ K) (h : stepV p e fan s = some s') : s'.pl = s.pl + 1 ∧ s'.pl ≤ K ∧ s'.L.length ≤ s.L.length + 1 := by
  simp only [stepV] at h
  cases hx : p[s.pl]? with
  | none => rw [hx] at h; cases h
  | some x =>
    rw [hx] at h
    simp only at h
    by_cases hc : mayV x (p.length : Int) = 0 ∧ x.o ≠ 15
    · rw [if_pos hc] at h
      injection h with h
      subst h
      refine ⟨doV_pl .., ?_, doV_len ..⟩
      rw [doV_pl]
      by_cases he : s.pl = K
      · rw [he] at hx
        exact absurd (hK.s x hx) hc.2
      · omega
    · rw [if_neg hc] at h; cases h

section
variable {w : World} {mb : Nat} {e : Nat → Int} {A : Option Addr} {cap : Nat} {p : List I} {fan : Int} {s : S} {sv : Value} {K : Nat}
theorem step_any (h : SAt w mb e A cap p fan s sv) (hn : p.length ≤ 1000) (hK : Still p K) (hpl : s.pl ≤ K) (hL : s.L.length ≤ 100000) :
    Calls Tryd.prog 7 #[.pointer (some ⟨mb, 0, none⟩)] w fun r w' => r = .returned (.bool (stepV p e fan s).isSome) ∧ ∃ sv', SAt w' mb e A cap p fan ((stepV p e fan s).getD s) sv' ∧ Below mb w w' := by
  have hlt := h.lt
  have hfalse : ∀ {w' : World}, Only [] w w' → stepV p e fan s = none → ∃ sv', SAt w' mb e A cap p fan ((stepV p e fan s).getD s) sv' ∧ Below mb w w' := by
    intro w' k hs
    rw [hs]
    exact ⟨sv, h.only0 k, k.os, k.tape, k.output, k.size, fun i hi => k.block i (by omega) (by simp)⟩
  cases hx : p[s.pl]? with
  | none =>
    have hs : stepV p e fan s = none := by simp only [stepV]; rw [hx]
    refine (step_end h hn (List.getElem?_eq_none_iff.1 hx)).mono ?_
    rintro _ w' ⟨rfl, k⟩
    exact ⟨by rw [hs]; rfl, hfalse k hs⟩
  | some x =>
    have hstep : stepV p e fan s = if mayV x (p.length : Int) = 0 ∧ x.o ≠ 15 then some (doV x e fan s) else none := by simp only [stepV]; rw [hx]
    obtain ⟨o, a, b, c, d⟩ := x
    by_cases hm : mayV ⟨o, a, b, c, d⟩ (p.length : Int) = 0
    · by_cases h15 : o = 15
      · have hs : stepV p e fan s = none := by rw [hstep, if_neg (by simp [h15])]
        refine (step_stop h hn hx hm h15).mono ?_
        rintro _ w' ⟨rfl, k⟩
        exact ⟨by rw [hs]; rfl, hfalse k hs⟩
      · have hs : stepV p e fan s = some (doV ⟨o, a, b, c, d⟩ e fan s) := by rw [hstep, if_pos ⟨hm, h15⟩]
        have hlK : s.pl < K := by
          rcases Nat.lt_or_ge s.pl K with h' | h'
          · exact h'
          · have : s.pl = K := by omega
            rw [this] at hx
            exact absurd (hK.s _ hx) h15
        obtain ⟨h8, h9⟩ := hK.j _ _ hx hlK
        simp only at h8 h9
        obtain ⟨h1, h2, _⟩ := may_facts hm
        simp only at h1 h2
        have ha := may_cell hm 0
        have hb := may_cell hm 1
        have hc := may_cell hm 2
        simp only [I.n] at ha hb hc
        have key : ∀ {P : Ending → World → Prop}, (Calls Tryd.prog 7 #[.pointer (some ⟨mb, 0, none⟩)] w fun r w' => r = .returned (.bool true) ∧ ∃ sv', SAt w' mb e A cap p fan (doV ⟨o, a, b, c, d⟩ e fan s) sv' ∧ Below mb w w') → Calls Tryd.prog 7 #[.pointer (some ⟨mb, 0, none⟩)] w fun r w' => r = .returned (.bool (stepV p e fan s).isSome) ∧ ∃ sv', SAt w' mb e A cap p fan ((stepV p e fan s).getD s) sv' ∧ Below mb w w' := by
          intro _ h'
          rw [hs]
          exact h'
        refine key (P := fun _ _ => True) ?_
        by_cases h14 : o = 14
        · subst h14
          have ha' := ha (by decide) (by decide)
          have hb' := hb (by decide) (by decide)
          have hc' := hc (by decide) (by decide)
          obtain ⟨a, rfl⟩ : ∃ k : Nat, a = k := ⟨a.toNat, by have h := ha'.1; change 0 ≤ a at h; omega⟩
          obtain ⟨b, rfl⟩ : ∃ k : Nat, b = k := ⟨b.toNat, by have h := hb'.1; change 0 ≤ b at h; omega⟩
          obtain ⟨c, rfl⟩ : ∃ k : Nat, c = k := ⟨c.toNat, by have h := hc'.1; change 0 ≤ c at h; omega⟩
          have ha8 : a < 8 := by have h := ha'.2; change (a : Int) < 8 at h; omega
          have hb8 : b < 8 := by have h := hb'.2; change (b : Int) < 8 at h; omega
          have hc8 : c < 8 := by have h := hc'.2; change (c : Int) < 8 at h; omega
          by_cases hf : (s.L.length : Int) < fan
          · exact step_send h hn hx hm ha8 hb8 hc8 hf hL
          · exact step_full h hn hx hm ha8 hb8 hc8 hf
        · have ha' : 0 ≤ a ∧ a < 8 := by
            have h' : 0 < (kindsL o.toNat).length ∧ (kindsL o.toNat).getD 0 0 = 99 := by
              rcases (by omega : o = 1 ∨ o = 2 ∨ o = 3 ∨ o = 4 ∨ o = 5 ∨ o = 6 ∨ o = 7 ∨ o = 10 ∨ o = 11 ∨ o = 12 ∨ o = 13) with rfl | rfl | rfl | rfl | rfl | rfl | rfl | rfl | rfl | rfl | rfl <;> exact ⟨by decide, by decide⟩
            simpa using ha h'.1 h'.2
          obtain ⟨a, rfl⟩ : ∃ k : Nat, a = k := ⟨a.toNat, by omega⟩
          exact step_num h hn hx hm h8 h9 h14 h15 (by omega)
    · have hs : stepV p e fan s = none := by rw [hstep, if_neg (by simp [hm])]
      refine (step_bad h hn hx hm).mono ?_
      rintro _ w' ⟨rfl, k⟩
      exact ⟨by rw [hs]; rfl, hfalse k hs⟩
end

/-- So many steps, and how many there were. -/
def runV (p : List I) (e : Nat → Int) (fan : Int) : Nat → S → Nat → S × Nat
  | 0, s, n => (s, n)
  | k + 1, s, n => match stepV p e fan s with
    | none => (s, n)
    | some s' => runV p e fan k s' (n + 1)
end Go.Proofs.YtipllcepoijbiaaDoor
