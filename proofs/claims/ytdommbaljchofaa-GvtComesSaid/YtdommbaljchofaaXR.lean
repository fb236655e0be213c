/-
  Are the statements' arguments small?
-/
import Derived.Test.YtdommbaljchofaaXQ
namespace Go.Proofs.Ytdommbaljchofaa
open Go.RowKit Go.Deep
set_option linter.unusedVariables false

def smallB (n : Nat) (rows : Nat → List Int) (m : Nat) (ps : Nat → PickV) : Bool := decide ((∀ i < n, (rows i).length ≤ 20) ∧ (∀ i < m, (ps i).l.length ≤ 5) ∧ 1 ≤ n ∧ n ≤ 8 ∧ m ≤ 200)
theorem small_yes {n m : Nat} {rows : Nat → List Int} {ps : Nat → PickV} : smallB n rows m ps = true ↔ (∀ i < n, (rows i).length ≤ 20) ∧ (∀ i < m, (ps i).l.length ≤ 5) ∧ 1 ≤ n ∧ n ≤ 8 ∧ m ≤ 200 := by simp only [smallB, decide_eq_true_eq]

set_option maxRecDepth 100000 in
set_option maxHeartbeats 2000000 in
theorem small_any {w : World} {A A2 : Option Addr} {n m c c2 : Nat} {rows : Nat → List Int} {ps : Nat → PickV} {r : Bool} (hn : n ≤ 9223372036854775807) (hm : m ≤ 9223372036854775807) (h : RowsAt w A n rows) (h2 : PicksAt w A2 m ps) (hr : smallB n rows m ps = r) :
    Calls Try.prog 18 #[.slice A n c, .slice A2 m c2] w fun e w' => e = .returned (.bool r) ∧ w = w' := by
  have H := hide h
  have H2 := hide h2
  have HR := hide hr
  clear h h2 hr
  go_enter Try.func18, Try.ntmps18
  go_wp2_with fail
  go_loopg [5] n (fun g i wr => ∃ j : Nat, j + g = n ∧ i = .int .i64 j ∧ w = wr ∧ ∀ k < j, (rows k).length ≤ 20)
  case atStart => exact ⟨0, by omega, rfl, rfl, fun k hk => absurd hk (by omega)⟩
  case round =>
    obtain ⟨j, hjg, rfl, rfl, hall⟩ := hrel
    have HA : Hid (∀ k < j, (rows k).length ≤ 20) := hall
    clear hall
    by_cases hj : j < n
    · obtain ⟨b, off, B, d, rfl, hlt, ho⟩ := (unhide H) j hj
      have c4 := ho.c0
      generalize hx : (rows j).length = x at c4
      have HX := hide hx
      clear hx ho
      have g1 : decide (n ≤ j) = false := by simp; omega
      have g2 : decide (j < n) = true := by simp; omega
      by_cases h20 : x ≤ 20
      · have g3 : decide ((20 : Int) < (x : Int)) = false := by simp; omega
        have H20 := hide h20
        clear h20
        go_wp2_with fail
        go_roundg (n - (j + 1))
        case measure => omega
        case rel =>
          refine ⟨j + 1, by omega, by go_num, rfl, fun k hk => ?_⟩
          by_cases e : k = j
          · rw [e, unhide HX]; exact unhide H20
          · exact HA.out k (by omega)
      · have g3 : decide ((20 : Int) < (x : Int)) = true := by simp; omega
        have e : r = false := by
          rw [← unhide HR]
          cases hb : smallB n rows m ps with
          | false => rfl
          | true =>
            have := (small_yes.1 hb).1 j hj
            have := unhide HX
            omega
        have HE := hide e
        clear e h20
        go_wp2_with fail
        go_ret
        rw [unhide HE]
        exact ⟨rfl, rfl⟩
    · have g2 : decide (j < n) = false := by simp; omega
      have HA' : Hid (∀ k < n, (rows k).length ≤ 20) := fun k hk => HA.out k (by omega)
      clear HA
      go_wp2_with fail
      go_loopg [6] m (fun g i wr => ∃ j : Nat, j + g = m ∧ i = .int .i64 j ∧ w = wr ∧ ∀ k < j, (ps k).l.length ≤ 5)
      case atStart => exact ⟨0, by omega, rfl, rfl, fun k hk => absurd hk (by omega)⟩
      case round =>
        obtain ⟨q, hqg, rfl, rfl, hall⟩ := hrel
        have HA2 : Hid (∀ k < q, (ps k).l.length ≤ 5) := hall
        clear hall
        by_cases hq : q < m
        · obtain ⟨b, off, B, d, rfl, hlt, ho⟩ := (unhide H2) q hq
          have c4 := ho.c3
          generalize hx : (ps q).l.length = x at c4
          have HX := hide hx
          clear hx ho
          have g1 : decide (m ≤ q) = false := by simp; omega
          have g5 : decide (q < m) = true := by simp; omega
          by_cases h20 : x ≤ 5
          · have g3 : decide ((5 : Int) < (x : Int)) = false := by simp; omega
            have H20 := hide h20
            clear h20
            go_wp2_with fail
            go_roundg (m - (q + 1))
            case measure => omega
            case rel =>
              refine ⟨q + 1, by omega, by go_num, rfl, fun k hk => ?_⟩
              by_cases e : k = q
              · rw [e, unhide HX]; exact unhide H20
              · exact HA2.out k (by omega)
          · have g3 : decide ((5 : Int) < (x : Int)) = true := by simp; omega
            have e : r = false := by
              rw [← unhide HR]
              cases hb : smallB n rows m ps with
              | false => rfl
              | true =>
                have := (small_yes.1 hb).2.1 q hq
                have := unhide HX
                omega
            have HE := hide e
            clear e h20
            go_wp2_with fail
            go_ret
            rw [unhide HE]
            exact ⟨rfl, rfl⟩
        · have g5 : decide (q < m) = false := by simp; omega
          have e : r = decide (1 ≤ n ∧ n ≤ 8 ∧ m ≤ 200) := by
            rw [← unhide HR]
            unfold smallB
            congr 1
            rw [eq_iff_iff]
            exact ⟨fun h => h.2.2, fun h => ⟨HA'.out, fun k hk => HA2.out k (by omega), h⟩⟩
          have HE := hide e
          clear e
          by_cases b1 : 1 ≤ n
          · have f1 : decide ((1 : Int) ≤ (n : Int)) = true := by simp; omega
            by_cases b2 : n ≤ 8
            · have f2 : decide ((n : Int) ≤ 8) = true := by simp; omega
              by_cases b3 : m ≤ 200
              · have f3 : decide ((m : Int) ≤ 200) = true := by simp; omega
                go_wp2_with fail
                go_ret
                rw [unhide HE, decide_eq_true (p := 1 ≤ n ∧ n ≤ 8 ∧ m ≤ 200) ⟨b1, b2, b3⟩]
                exact ⟨rfl, rfl⟩
              · have f3 : decide ((m : Int) ≤ 200) = false := by simp; omega
                go_wp2_with fail
                go_ret
                rw [unhide HE, decide_eq_false (p := 1 ≤ n ∧ n ≤ 8 ∧ m ≤ 200) (by omega)]
                exact ⟨rfl, rfl⟩
            · have f2 : decide ((n : Int) ≤ 8) = false := by simp; omega
              go_wp2_with fail
              go_ret
              rw [unhide HE, decide_eq_false (p := 1 ≤ n ∧ n ≤ 8 ∧ m ≤ 200) (by omega)]
              exact ⟨rfl, rfl⟩
          · have f1 : decide ((1 : Int) ≤ (n : Int)) = false := by simp; omega
            go_wp2_with fail
            go_ret
            rw [unhide HE, decide_eq_false (p := 1 ≤ n ∧ n ≤ 8 ∧ m ≤ 200) (by omega)]
            exact ⟨rfl, rfl⟩
end Go.Proofs.Ytdommbaljchofaa
