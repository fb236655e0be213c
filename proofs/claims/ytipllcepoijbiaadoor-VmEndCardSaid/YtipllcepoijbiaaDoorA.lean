/-
  The small functions of a machine's instructions.
-/
import Derived.Test.YtipllcepoijbiaaDoorRows
import Derived.Test.YtipllcepoijbiaaDoorW
import Derived.Outline
import Derived.Handy
import Derived.WalkLawsBesides
import Derived.WalkSpells
import Derived.Deep.LoopGhost
import Derived.Deep.QuietTactic
import Derived.BigQuiet
import Derived.BigRegion
namespace Go.Proofs.YtipllcepoijbiaaDoor
open Go.RowKit Go.Deep
set_option linter.unusedVariables false

/-- May a number of a kind be? (99: a cell, 112: a place, 107: a kind, 110: whole.) -/
def rightB (k : Int) (n many : Int) : Bool :=
  if k = 99 then decide (0 ≤ n ∧ n < 8) else if k = 112 then decide (0 ≤ n ∧ n ≤ many) else if k = 107 then decide (0 ≤ n ∧ n ≤ 255) else decide (k = 110)
theorem right_any {w : World} {k n many : Int} : Calls Tryd.prog 17 #[.int .u8 k, .int .i64 n, .int .i64 many] w fun e w' => e = .returned (.bool (rightB k n many)) ∧ w = w' := by
  obtain ⟨r, hr⟩ : ∃ r, rightB k n many = r := ⟨_, rfl⟩
  have HR := hide hr
  rw [hr]
  clear hr
  by_cases h1 : k = 99
  · subst h1
    by_cases ha : 0 ≤ n
    · have a1 : decide (0 ≤ n) = true := by simpa using ha
      by_cases hb : n < 8
      · have b1 : decide (n < 8) = true := by simpa using hb
        have e : r = true := by rw [← unhide HR]; simp [rightB, ha, hb]
        have HE := hide e
        clear e
        go_enter Tryd.func17, Tryd.ntmps17
        go_wp2_with fail
        go_ret
        rw [unhide HE]
        exact ⟨rfl, rfl⟩
      · have b1 : decide (n < 8) = false := by simpa using hb
        have e : r = false := by rw [← unhide HR]; simp [rightB]; omega
        have HE := hide e
        clear e
        go_enter Tryd.func17, Tryd.ntmps17
        go_wp2_with fail
        go_ret
        rw [unhide HE]
        exact ⟨rfl, rfl⟩
    · have a1 : decide (0 ≤ n) = false := by simpa using ha
      have e : r = false := by rw [← unhide HR]; simp [rightB]; omega
      have HE := hide e
      clear e
      go_enter Tryd.func17, Tryd.ntmps17
      go_wp2_with fail
      go_ret
      rw [unhide HE]
      exact ⟨rfl, rfl⟩
  have e1 : (k == 99) = false := by simpa using h1
  by_cases h2 : k = 112
  · subst h2
    by_cases ha : 0 ≤ n
    · have a1 : decide (0 ≤ n) = true := by simpa using ha
      by_cases hb : n ≤ many
      · have b1 : decide (n ≤ many) = true := by simpa using hb
        have e : r = true := by rw [← unhide HR]; simp [rightB, ha, hb]
        have HE := hide e
        clear e
        go_enter Tryd.func17, Tryd.ntmps17
        go_wp2_with fail
        go_ret
        rw [unhide HE]
        exact ⟨rfl, rfl⟩
      · have b1 : decide (n ≤ many) = false := by simpa using hb
        have e : r = false := by rw [← unhide HR]; simp [rightB]; omega
        have HE := hide e
        clear e
        go_enter Tryd.func17, Tryd.ntmps17
        go_wp2_with fail
        go_ret
        rw [unhide HE]
        exact ⟨rfl, rfl⟩
    · have a1 : decide (0 ≤ n) = false := by simpa using ha
      have e : r = false := by rw [← unhide HR]; simp [rightB]; omega
      have HE := hide e
      clear e
      go_enter Tryd.func17, Tryd.ntmps17
      go_wp2_with fail
      go_ret
      rw [unhide HE]
      exact ⟨rfl, rfl⟩
  have e2 : (k == 112) = false := by simpa using h2
  by_cases h3 : k = 107
  · subst h3
    by_cases ha : 0 ≤ n
    · have a1 : decide (0 ≤ n) = true := by simpa using ha
      by_cases hb : n ≤ 255
      · have b1 : decide (n ≤ 255) = true := by simpa using hb
        have e : r = true := by rw [← unhide HR]; simp [rightB, ha, hb]
        have HE := hide e
        clear e
        go_enter Tryd.func17, Tryd.ntmps17
        go_wp2_with fail
        go_ret
        rw [unhide HE]
        exact ⟨rfl, rfl⟩
      · have b1 : decide (n ≤ 255) = false := by simpa using hb
        have e : r = false := by rw [← unhide HR]; simp [rightB]; omega
        have HE := hide e
        clear e
        go_enter Tryd.func17, Tryd.ntmps17
        go_wp2_with fail
        go_ret
        rw [unhide HE]
        exact ⟨rfl, rfl⟩
    · have a1 : decide (0 ≤ n) = false := by simpa using ha
      have e : r = false := by rw [← unhide HR]; simp [rightB]; omega
      have HE := hide e
      clear e
      go_enter Tryd.func17, Tryd.ntmps17
      go_wp2_with fail
      go_ret
      rw [unhide HE]
      exact ⟨rfl, rfl⟩
  have e3 : (k == 107) = false := by simpa using h3
  have e : r = (k == 110) := by
    rw [← unhide HR]
    simp only [rightB]
    rw [if_neg h1, if_neg h2, if_neg h3]
    by_cases h4 : k = 110 <;> simp [h4]
  have HE := hide e
  clear e h1 h2 h3
  by_cases h4 : k = 110
  · subst h4
    go_enter Tryd.func17, Tryd.ntmps17
    go_wp2_with fail
    go_ret
    rw [unhide HE]
    exact ⟨rfl, rfl⟩
  · have e4 : (k == 110) = false := by simpa using h4
    rw [e4] at HE
    clear h4
    go_enter Tryd.func17, Tryd.ntmps17
    go_wp2_with fail
    go_ret
    rw [unhide HE]
    exact ⟨rfl, rfl⟩

/-- Go's remainder, nothing at nought. -/
def leftV (b c : Int) : Int := if c = 0 then 0 else b.tmod c
theorem left_any {w : World} {b c : Int} : Calls Tryd.prog 18 #[.int .i64 b, .int .i64 c] w fun e w' => e = .returned (.int .i64 (leftV b c)) ∧ w = w' := by
  by_cases h : c = 0
  · subst h
    go_enter Tryd.func18, Tryd.ntmps18
    go_wp2_with fail
    go_ret
    exact ⟨rfl, rfl⟩
  · have h' : (c == 0) = false := by simpa using h
    have e : leftV b c = b.tmod c := by simp [leftV, h]
    rw [e]
    clear e
    go_enter Tryd.func18, Tryd.ntmps18
    go_wp2_with fail
    go_ret
    exact ⟨rfl, rfl⟩
def truthV (b : Bool) : Int := if b then 1 else 0
theorem truth_any {w : World} {b : Bool} : Calls Tryd.prog 19 #[.bool b] w fun e w' => e = .returned (.int .i64 (truthV b)) ∧ w = w' := by
  cases b
  · go_enter Tryd.func19, Tryd.ntmps19
    go_wp2_with fail
    go_ret
    exact ⟨rfl, rfl⟩
  · go_enter Tryd.func19, Tryd.ntmps19
    go_wp2_with fail
    go_ret
    exact ⟨rfl, rfl⟩
end Go.Proofs.YtipllcepoijbiaaDoor
