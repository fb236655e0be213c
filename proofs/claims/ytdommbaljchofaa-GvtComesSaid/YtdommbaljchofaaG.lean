/-
  The contracts of the reference's master.
-/
import Derived.Test.YtdommbaljchofaaF
namespace Go.Proofs.Ytdommbaljchofaa
open Go.RowKit Go.Deep
set_option linter.unusedVariables false

theorem rtime_any {at_ : Int} (w : World) : Calls Try.prog 43 #[.int .i64 at_] w fun e w' => e = .returned (.bool (decide (IsTime at_))) ∧ w = w' := by
  by_cases h0 : 0 ≤ at_
  · by_cases h1 : at_ ≤ 1073741825
    · have e : decide (IsTime at_) = true := by simpa using show IsTime at_ from ⟨h0, h1⟩
      rw [e]
      go_enter Try.func43, Try.ntmps43
      go_wp2_with fail
      go_ret
      exact ⟨rfl, rfl⟩
    · have e : decide (IsTime at_) = false := decide_eq_false (fun h => by have := h.1; have := h.2; omega)
      rw [e]
      have h1' : 1073741825 < at_ := by omega
      go_enter Try.func43, Try.ntmps43
      go_wp2_with fail
      go_ret
      exact ⟨rfl, rfl⟩
  · have e : decide (IsTime at_) = false := decide_eq_false (fun h => by have := h.1; have := h.2; omega)
    rw [e]
    go_enter Try.func43, Try.ntmps43
    go_wp2_with fail
    go_ret
    exact ⟨rfl, rfl⟩

/-- The least of the first i, of those that are told. -/
def leastTo (L : Nat → Int) : Nat → Int
  | 0 => Never
  | i + 1 => if 0 ≤ L i then min (leastTo L i) (L i) else leastTo L i
theorem leastTo_congr {L L' : Nat → Int} {i : Nat} (h : ∀ j < i, L j = L' j) : leastTo L i = leastTo L' i := by
  induction i with
  | zero => rfl
  | succ i ih =>
    simp only [leastTo]
    rw [ih (fun j hj => h j (by omega)), h i (by omega)]
theorem leastTo_up {L : Nat → Int} {k n : Nat} {x : Int} (hk : k < n) (hL : L k < 0) (hx : 0 ≤ x) : leastTo (lUp L k x) n = min (leastTo L n) x := by
  induction n with
  | zero => omega
  | succ n ih =>
    simp only [leastTo]
    by_cases e : k = n
    · subst e
      have h1 : leastTo (lUp L k x) k = leastTo L k := leastTo_congr (fun j hj => by simp only [lUp]; rw [if_neg (by omega)])
      have h2 : lUp L k x k = x := by simp [lUp]
      rw [h1, h2, if_pos hx, if_neg (by omega)]
    · have h2 : lUp L k x n = L n := by simp only [lUp]; rw [if_neg (by omega)]
      rw [ih (by omega), h2]
      split <;> omega

section
variable {w : World} {rb lb n : Nat} {rd time : Int} {L : Nat → Int} {run : Bool} {wk round at_ : Int}
theorem rbegin_run (h : RMAt w rb lb n rd L true time) : Calls Try.prog 28 #[.pointer (some ⟨rb, 0, none⟩)] w fun e w' => e = .returned (.tuple #[.int .i64 0, .int .i64 19]) ∧ w = w' := by
  have c2 := h.c2
  clear h
  go_enter Try.func28, Try.ntmps28
  go_wp2_with fail
  go_ret2
  exact ⟨rfl, rfl⟩

set_option maxHeartbeats 1000000 in
theorem rbegin_ok (h : RMAt w rb lb n rd L false time) (hn : n ≤ 1000000) (h0 : 0 ≤ rd) (hr : rd ≤ 1000000) : Calls Try.prog 28 #[.pointer (some ⟨rb, 0, none⟩)] w fun e w' =>
    e = .returned (.tuple #[.int .i64 (rd + 1), .int .i64 0]) ∧ RMAt w' rb lb n (rd + 1) (fun _ => -1) true time ∧ Only [rb, lb] w w' := by
  have c1 := h.c1
  have c2 := h.c2
  have z1 := h.z 1
  have z2 := h.z 2
  have hlt := h.lt
  have H : Hid (RMAt w rb lb n rd L false time) := h
  clear h
  go_enter Try.func28, Try.ntmps28
  go_wp2_with fail
  go_loopg [4] n (fun g i wr => ∃ j : Nat, j + g = n ∧ i = .int .i64 j ∧ RMAt wr rb lb n (rd + 1) (fun k => if k < j then -1 else L k) true time ∧ Only [rb, lb] w wr)
  case atStart =>
    refine ⟨0, by omega, rfl, ((H.out.set2 true).set1 (rd + 1)).congr (fun k hk => by simp), ((Only.refl _ _).setIn (by simp) _).setIn (by simp) _⟩
  case round =>
    obtain ⟨j, hjg, rfl, hR, hO⟩ := hrel
    have HR : Hid (RMAt wr rb lb n (rd + 1) (fun k => if k < j then -1 else L k) true time) := hR
    have HO : Hid (Only [rb, lb] w wr) := hO
    have b0 := hR.c0
    have b1 := hR.c1
    have y0 := hR.lt
    clear hO c1 c2 z1 z2 hlt
    by_cases hj : j < n
    · have cc := hR.tl.cell hj
      have zz := hR.tl.frozen j
      have ll := hR.tl.lt
      clear hR
      have g1 : decide (n ≤ j) = false := by simp; omega
      have g2 : decide (j < n) = true := by simp; omega
      go_wp2_with fail
      go_roundg (n - (j + 1))
      case measure => omega
      case rel =>
        refine ⟨j + 1, by omega, by go_num, (HR.out.setL j (-1)).congr (fun k hk => ?_), HO.out.setIn (by simp) _⟩
        simp only [lUp]
        by_cases e1 : k = j
        · rw [if_pos e1, if_pos (by omega)]
        · rw [if_neg e1]
          by_cases e2 : k < j
          · rw [if_pos e2, if_pos (by omega)]
          · rw [if_neg e2, if_neg (by omega)]
    · clear hR
      have g2 : decide (j < n) = false := by simp; omega
      go_wp2_with fail
      go_ret2
      exact ⟨rfl, HR.out.congr (fun k hk => by rw [if_pos (by omega)]), HO.out⟩

def rTold (L : Nat → Int) : Nat → Bool := fun j => decide (0 ≤ L j)
set_option maxHeartbeats 1000000 in
theorem rreport_bad (h : RMAt w rb lb n rd L run time) (hn : n ≤ 1000000) (hc : repCode n rd (rTold L) run wk round at_ ≠ 0) :
    Calls Try.prog 30 #[.pointer (some ⟨rb, 0, none⟩), .int .i64 wk, .int .i64 round, .int .i64 at_] w fun e w' => e = .returned (.tuple #[.bool false, .int .i64 (repCode n rd (rTold L) run wk round at_)]) ∧ w = w' := by
  have c0 := h.c0
  have c1 := h.c1
  have c2 := h.c2
  have hlt := h.lt
  by_cases h1 : wk < 0
  · have e : repCode n rd (rTold L) run wk round at_ = 1 := by simp only [repCode]; rw [if_pos (.inl h1)]
    rw [e]
    clear e hc h
    go_enter Try.func30, Try.ntmps30
    go_wp2_with fail
    go_ret2
    exact ⟨rfl, rfl⟩
  by_cases h2 : (n : Int) ≤ wk
  · have e : repCode n rd (rTold L) run wk round at_ = 1 := by simp only [repCode]; rw [if_pos (.inr h2)]
    rw [e]
    clear e hc h
    go_enter Try.func30, Try.ntmps30
    go_wp2_with fail
    go_ret2
    exact ⟨rfl, rfl⟩
  obtain ⟨k, rfl⟩ : ∃ k : Nat, wk = (k : Int) := ⟨wk.toNat, by omega⟩
  have hk : k < n := by omega
  have g1 : decide ((k : Int) < 0) = false := by simp
  have g2 : decide ((n : Int) ≤ (k : Int)) = false := by simp; omega
  have g3 : decide (n ≤ k) = false := by simp; omega
  by_cases h3 : IsTime at_
  · have ht : decide (IsTime at_) = true := by simpa using h3
    cases run with
    | false =>
      have e : repCode n rd (rTold L) false k round at_ = 19 := by simp only [repCode]; rw [if_neg (by omega), if_pos h3, if_pos (.inl (by trivial))]
      rw [e]
      have HT := hide ht
      clear e hc h ht h3 h1 h2
      go_enter Try.func30, Try.ntmps30
      go_wp2_with (go_at_call 43; refine (rtime_any _).mono ?_; rintro e w' ⟨rfl, rfl⟩; rw [unhide HT])
      go_ret2
      exact ⟨rfl, rfl⟩
    | true =>
      by_cases h4 : round = rd
      · have ht2 : 0 ≤ L k := by
          by_cases hb : 0 ≤ L k
          · exact hb
          · exfalso
            apply hc
            simp only [repCode]
            rw [if_neg (by omega), if_pos h3, if_neg (by simp [h4]), if_neg (by simp [rTold]; omega)]
        have e : repCode n rd (rTold L) true k round at_ = 13 := by
          simp only [repCode]
          rw [if_neg (by omega), if_pos h3, if_neg (by simp [h4]), if_pos (by simpa [rTold] using ht2)]
        rw [e]
        have HT := hide ht
        have hb : (round != rd) = false := by simpa using h4
        have cc := h.tl.cell hk
        have hlt2 := h.tl.lt
        generalize L k = v at cc ht2
        clear e hc h ht h3 h1 h2 h4
        go_enter Try.func30, Try.ntmps30
        go_wp2_with (go_at_call 43; refine (rtime_any _).mono ?_; rintro e w' ⟨rfl, rfl⟩; rw [unhide HT])
        go_ret2
        exact ⟨rfl, rfl⟩
      · have e : repCode n rd (rTold L) true k round at_ = 19 := by simp only [repCode]; rw [if_neg (by omega), if_pos h3, if_pos (.inr h4)]
        rw [e]
        have HT := hide ht
        have hb : (round != rd) = true := by simpa using h4
        clear e hc h ht h3 h1 h2 h4
        go_enter Try.func30, Try.ntmps30
        go_wp2_with (go_at_call 43; refine (rtime_any _).mono ?_; rintro e w' ⟨rfl, rfl⟩; rw [unhide HT])
        go_ret2
        exact ⟨rfl, rfl⟩
  · have ht : decide (IsTime at_) = false := by simpa using h3
    have e : repCode n rd (rTold L) run k round at_ = 10 := by simp only [repCode]; rw [if_neg (by omega), if_neg h3]
    rw [e]
    have HT := hide ht
    clear e hc h ht h3 h1 h2
    go_enter Try.func30, Try.ntmps30
    go_wp2_with (go_at_call 43; refine (rtime_any _).mono ?_; rintro e w' ⟨rfl, rfl⟩; rw [unhide HT])
    go_ret2
    exact ⟨rfl, rfl⟩

/-- The reference's report that is taken: the loop, up to the first that is not told. -/
theorem rep_stop {L : Nat → Int} {n j : Nat} (hj : j < n) (h : L j < 0) : allTold n (rTold L) = false := by
  cases hb : allTold n (rTold L) with
  | false => rfl
  | true =>
    have := allTold_true.1 hb j hj
    simp [rTold] at this
    omega
set_option maxHeartbeats 2000000 in
theorem rreport_ok {k : Nat} {L' : Nat → Int} {b : Bool} {y : Int} (h : RMAt w rb lb n rd L true time) (hn : n ≤ 1000000) (hk : k < n) (ht : IsTime at_) (hf : L k < 0) (hL : lUp L k at_ = L') (hb : allTold n (rTold L') = b) (hy : (if b = true then max time (leastTo L' n) else time) = y) :
    Calls Try.prog 30 #[.pointer (some ⟨rb, 0, none⟩), .int .i64 k, .int .i64 rd, .int .i64 at_] w fun e w' =>
      e = .returned (.tuple #[.bool b, .int .i64 0]) ∧ RMAt w' rb lb n rd L' (!b) y ∧ Only [rb, lb] w w' := by
  have c0 := h.c0
  have c1 := h.c1
  have c2 := h.c2
  have hlt := h.lt
  have hlt2 := h.tl.lt
  have zt := h.tl.frozen k
  have cc := h.tl.cell hk
  have hne := h.ne
  have hne' : rb ≠ lb := fun e => hne e.symm
  have g1 : decide ((k : Int) < 0) = false := by simp
  have g2 : decide ((n : Int) ≤ (k : Int)) = false := by simp; omega
  have g3 : decide (n ≤ k) = false := by simp; omega
  have g4 : (rd != rd) = false := by simp
  generalize hv : L k = v at cc hf
  clear hv
  have HT : Hid (decide (IsTime at_) = true) := by show decide (IsTime at_) = true; simpa using ht
  have H4 : Hid (RMAt (w.setCell ⟨lb, k, none⟩ (.int .i64 at_)) rb lb n rd L' true time) := by rw [← hL]; exact h.setL k at_
  have HO : Hid (Only [rb, lb] w (w.setCell ⟨lb, k, none⟩ (.int .i64 at_))) := (Only.refl _ _).setIn (by simp) _
  have HB := hide hb
  have HY := hide hy
  clear h ht hL hb hy
  go_enter Try.func30, Try.ntmps30
  go_wp2_with (go_at_call 43; refine (rtime_any _).mono ?_; rintro e w' ⟨rfl, rfl⟩; rw [unhide HT])
  generalize (w.setCell ⟨lb, k, none⟩ (.int .i64 at_)) = w3 at *
  clear c0 c1 c2 hlt hlt2 zt cc g1 g2 g3 g4
  have c0 := H4.out.c0
  have c2 := H4.out.c2
  have c3 := H4.out.c3
  have z2 := H4.out.z 2
  have z3 := H4.out.z 3
  have hlt := H4.out.lt
  have hlt2 := H4.out.tl.lt
  go_loopg [10, 11] n (fun g v i wr => ∃ j : Nat, j + g = n ∧ i = .int .i64 j ∧ w3 = wr ∧ v = .int .i64 (leastTo L' j) ∧ ∀ q < j, 0 ≤ L' q)
  case atStart => exact ⟨0, by omega, rfl, rfl, rfl, fun q hq => absurd hq (by omega)⟩
  case round =>
    obtain ⟨j, hjg, rfl, rfl, rfl, hall⟩ := hrel
    have HA : Hid (∀ q < j, 0 ≤ L' q) := hall
    clear hall
    by_cases hj : j < n
    · have cc := H4.out.tl.cell hj
      have g1 : decide (n ≤ j) = false := by simp; omega
      have g2 : decide (j < n) = true := by simp; omega
      generalize hv : L' j = v at cc
      have HV := hide hv
      by_cases hneg : v < 0
      · have hst := rep_stop hj (show L' j < 0 by omega)
        have HBF : Hid (b = false) := by show b = false; rw [← unhide HB]; exact hst
        clear hst hv
        generalize leastTo L' j = acc
        go_wp2_with fail
        go_ret2
        have e := HBF.out
        have e2 := unhide HY
        rw [e, if_neg (by simp)] at e2
        rw [e, ← e2]
        exact ⟨rfl, H4.out, HO.out⟩
      · have hs : leastTo L' (j + 1) = min (leastTo L' j) v := by simp only [leastTo]; rw [hv, if_pos (by omega)]
        have HS := hide hs
        have hpos : 0 ≤ v := by omega
        clear hs hv hneg
        generalize leastTo L' j = acc at HS ⊢
        go_wp2_with fail
        all_goals
          go_roundg (n - (j + 1))
          case measure => omega
          case rel =>
            refine ⟨j + 1, by omega, by go_num, rfl, by rw [unhide HS]; first | rw [min_if] | (congr 1; omega), fun q hq => ?_⟩
            by_cases e : q = j
            · rw [e, unhide HV]; assumption
            · exact HA.out q (by omega)
    · have g2 : decide (j < n) = false := by simp; omega
      obtain rfl : j = n := by omega
      have HBT : Hid (b = true) := by
        show b = true
        rw [← unhide HB]
        exact allTold_true.2 (fun q hq => by simpa [rTold] using HA.out q hq)
      generalize leastTo L' j = acc at HY ⊢
      go_wp2_with fail
      all_goals
        go_ret2
        have e := HBT.out
        have e2 := unhide HY
        rw [e, if_pos rfl] at e2
        rw [e, ← e2]
        first
        | (rw [show max time acc = acc by omega]; exact ⟨rfl, (H4.out.set2 false).set3 _, (HO.out.setIn (by simp) _).setIn (by simp) _⟩)
        | (rw [show max time acc = time by omega]; exact ⟨rfl, (H4.out.set2 false).set3 _, (HO.out.setIn (by simp) _).setIn (by simp) _⟩)
end
end Go.Proofs.Ytdommbaljchofaa
