/-
  The contracts of a master's Report, and of the reference's Begin and Report.
-/
import Derived.Test.YtdommbaljchofaaE
namespace Go.Proofs.Ytdommbaljchofaa
open Go.RowKit Go.Deep
set_option linter.unusedVariables false

theorem indexb_any {w : World} {tb n : Nat} {f : Nat → Bool} (hn : n ≤ 1000000) (h : w.rowIs tb 4 n (fun j => .bool (f j))) :
    Calls Try.prog 47 #[.slice (some ⟨tb, 0, none⟩) n n, .bool false] w fun e w' => (∃ r : Int, e = .returned (.int .i64 r) ∧ ((r = -1 ∧ ∀ j < n, f j = true) ∨ (0 ≤ r ∧ ¬ ∀ j < n, f j = true))) ∧ w = w' := by
  have H : Hid (w.rowIs tb 4 n (fun j => .bool (f j))) := h
  clear h
  go_enter Try.func47, Try.ntmps47
  go_wp2_with fail
  go_loopg [8] n (fun g i wr => ∃ j : Nat, j + g = n ∧ i = .int .i64 j ∧ w = wr ∧ ∀ k, k < j → f k = true)
  case atStart => exact ⟨0, by omega, rfl, rfl, fun k hk => absurd hk (by omega)⟩
  case round =>
    obtain ⟨j, hjg, rfl, rfl, hall⟩ := hrel
    have HA : Hid (∀ k, k < j → f k = true) := hall
    clear hall
    by_cases hj : j < n
    · have hc := H.out.cell hj
      have hlt := H.out.lt
      generalize hx : f j = x at hc
      have HX : Hid (f j = x) := hx
      clear hx
      cases x with
      | true =>
        go_wp2_with fail
        go_roundg (n - (j + 1))
        case measure => omega
        case rel =>
          refine ⟨j + 1, by omega, by go_num, rfl, fun k hkj => ?_⟩
          by_cases e : k = j
          · subst e; exact HX.out
          · exact HA.out k (by omega)
      | false =>
        go_wp2_with fail
        go_ret
        refine ⟨⟨j, rfl, .inr ⟨by omega, fun hall => ?_⟩⟩, rfl⟩
        have := hall j hj
        rw [HX.out] at this
        cases this
    · go_wp2_with fail
      go_ret
      exact ⟨⟨-1, rfl, .inl ⟨rfl, fun k hk => HA.out k (by omega)⟩⟩, rfl⟩

def allTold (n : Nat) (f : Nat → Bool) : Bool := decide (∀ j < n, f j = true)
theorem allTold_true {n : Nat} {f : Nat → Bool} : allTold n f = true ↔ ∀ j < n, f j = true := by simp [allTold]
theorem containsb_any {w : World} {tb n : Nat} {f : Nat → Bool} (hn : n ≤ 1000000) (h : w.rowIs tb 4 n (fun j => .bool (f j))) :
    Calls Try.prog 42 #[.slice (some ⟨tb, 0, none⟩) n n, .bool false] w fun e w' => e = .returned (.bool (!allTold n f)) ∧ w = w' := by
  have H : Hid (w.rowIs tb 4 n (fun j => .bool (f j))) := h
  clear h
  go_enter Try.func42, Try.ntmps42
  go_wp2_with fail
  refine (indexb_any hn H.out).mono ?_
  rintro e w' ⟨⟨r, rfl, hr⟩, rfl⟩
  rcases hr with ⟨rfl, hr⟩ | ⟨h0, hr⟩
  · have e : (!allTold n f) = false := by rw [allTold_true.2 hr]; rfl
    have HE := hide e
    clear e hr
    go_wp2_with fail
    go_ret
    exact ⟨by rw [unhide HE]; rfl, rfl⟩
  · have e : (!allTold n f) = true := by cases hb : allTold n f with
      | false => rfl
      | true => exact absurd (allTold_true.1 hb) hr
    have HE := hide e
    clear e hr
    go_wp2_with fail
    go_ret
    exact ⟨by rw [unhide HE]; rfl, rfl⟩

def repCode (n : Nat) (rd : Int) (told : Nat → Bool) (run : Bool) (wk round at_ : Int) : Int :=
  if wk < 0 ∨ (n : Int) ≤ wk then 1 else if IsTime at_ then (if run = false ∨ round ≠ rd then 19 else if told wk.toNat = true then 13 else 0) else 10

section
variable {w : World} {qb tb n : Nat} {rd least time : Int} {told : Nat → Bool} {run : Bool} {wk round at_ : Int}

set_option maxHeartbeats 1000000 in
theorem report_bad (h : MAt w qb tb n rd told run least time) (hn : n ≤ 1000000) (hc : repCode n rd told run wk round at_ ≠ 0) :
    Calls Try.prog 29 #[.pointer (some ⟨qb, 0, none⟩), .int .i64 wk, .int .i64 round, .int .i64 at_] w fun e w' => e = .returned (.tuple #[.bool false, .int .i64 (repCode n rd told run wk round at_)]) ∧ w = w' := by
  have c0 := h.c0
  have c1 := h.c1
  have c2 := h.c2
  have hlt := h.lt
  by_cases h1 : wk < 0
  · have e : repCode n rd told run wk round at_ = 1 := by simp only [repCode]; rw [if_pos (.inl h1)]
    rw [e]
    clear e hc h
    go_enter Try.func29, Try.ntmps29
    go_wp2_with fail
    go_ret2
    exact ⟨rfl, rfl⟩
  by_cases h2 : (n : Int) ≤ wk
  · have e : repCode n rd told run wk round at_ = 1 := by simp only [repCode]; rw [if_pos (.inr h2)]
    rw [e]
    clear e hc h
    go_enter Try.func29, Try.ntmps29
    go_wp2_with fail
    go_ret2
    exact ⟨rfl, rfl⟩
  obtain ⟨k, rfl⟩ : ∃ k : Nat, wk = (k : Int) := ⟨wk.toNat, by omega⟩
  have hk : k < n := by omega
  have g1 : decide ((k : Int) < 0) = false := by simp
  have g2 : decide ((n : Int) ≤ (k : Int)) = false := by simp; omega
  have g3 : decide (n ≤ k) = false := by simp; omega
  by_cases h3 : IsTime at_
  · have ht : decide (IsTime at_) = true := by simpa using h3
    cases run with
    | false =>
      have e : repCode n rd told false k round at_ = 19 := by simp only [repCode]; rw [if_neg (by omega), if_pos h3, if_pos (.inl (by trivial))]
      rw [e]
      have HT := hide ht
      clear e hc h ht h3 h1 h2
      go_enter Try.func29, Try.ntmps29
      go_wp2_with (go_at_call 40; refine (time_any _).mono ?_; rintro e w' ⟨rfl, rfl⟩; rw [unhide HT])
      go_ret2
      exact ⟨rfl, rfl⟩
    | true =>
      by_cases h4 : round = rd
      · have ht2 : told k = true := by
          cases hb : told k with
          | true => rfl
          | false =>
            exfalso
            apply hc
            simp only [repCode]
            rw [if_neg (by omega), if_pos h3, if_neg (by simp [h4]), if_neg (by simp [hb])]
        have e : repCode n rd told true k round at_ = 13 := by
          simp only [repCode]
          rw [if_neg (by omega), if_pos h3, if_neg (by simp [h4]), if_pos (by simpa using ht2)]
        rw [e]
        have HT := hide ht
        have hb : (round != rd) = false := by simpa using h4
        have cc := h.tl.cell hk
        rw [ht2] at cc
        have hlt2 := h.tl.lt
        clear e hc h ht h3 h1 h2 h4 ht2
        go_enter Try.func29, Try.ntmps29
        go_wp2_with (go_at_call 40; refine (time_any _).mono ?_; rintro e w' ⟨rfl, rfl⟩; rw [unhide HT])
        go_ret2
        exact ⟨rfl, rfl⟩
      · have e : repCode n rd told true k round at_ = 19 := by simp only [repCode]; rw [if_neg (by omega), if_pos h3, if_pos (.inr h4)]
        rw [e]
        have HT := hide ht
        have hb : (round != rd) = true := by simpa using h4
        clear e hc h ht h3 h1 h2 h4
        go_enter Try.func29, Try.ntmps29
        go_wp2_with (go_at_call 40; refine (time_any _).mono ?_; rintro e w' ⟨rfl, rfl⟩; rw [unhide HT])
        go_ret2
        exact ⟨rfl, rfl⟩
  · have ht : decide (IsTime at_) = false := by simpa using h3
    have e : repCode n rd told run k round at_ = 10 := by simp only [repCode]; rw [if_neg (by omega), if_neg h3]
    rw [e]
    have HT := hide ht
    clear e hc h ht h3 h1 h2
    go_enter Try.func29, Try.ntmps29
    go_wp2_with (go_at_call 40; refine (time_any _).mono ?_; rintro e w' ⟨rfl, rfl⟩; rw [unhide HT])
    go_ret2
    exact ⟨rfl, rfl⟩

theorem min_le_if {a b : Int} (h : a ≤ b) : min a b = a := by omega

set_option maxHeartbeats 2000000 in
theorem report_done {k : Nat} {x y : Int} (h : MAt w qb tb n rd told true least time) (hn : n ≤ 1000000) (hk : k < n) (ht : IsTime at_) (hf : told k = false) (hb : allTold n (toldUp told k) = true) (hx : min least at_ = x) (hy : max time x = y) :
    Calls Try.prog 29 #[.pointer (some ⟨qb, 0, none⟩), .int .i64 k, .int .i64 rd, .int .i64 at_] w fun e w' =>
      e = .returned (.tuple #[.bool true, .int .i64 0]) ∧ MAt w' qb tb n rd (toldUp told k) false x y ∧ Only [qb, tb] w w' := by
  have c0 := h.c0
  have c1 := h.c1
  have c2 := h.c2
  have c3 := h.c3
  have c4 := h.c4
  have hlt := h.lt
  have hlt2 := h.tl.lt
  have z2 := h.z 2
  have z3 := h.z 3
  have z4 := h.z 4
  have zt := h.tl.frozen k
  have cc := h.tl.cell hk
  have hne := h.ne
  have hne' : qb ≠ tb := fun e => hne e.symm
  have g1 : decide ((k : Int) < 0) = false := by simp
  have g2 : decide ((n : Int) ≤ (k : Int)) = false := by simp; omega
  have g3 : decide (n ≤ k) = false := by simp; omega
  have g4 : (rd != rd) = false := by simp
  rw [hf] at cc
  have HT : Hid (decide (IsTime at_) = true) := by show decide (IsTime at_) = true; simpa using ht
  have H : Hid (MAt w qb tb n rd told true least time) := h
  have HX := hide hx
  have HB := hide hb
  have HY := hide hy
  clear hy
  clear h ht hf hx hb
  go_enter Try.func29, Try.ntmps29
  go_wp2_with (go_at_call 40; refine (time_any _).mono ?_; rintro e w' ⟨rfl, rfl⟩; rw [unhide HT])
  · obtain rfl : x = at_ := by have := unhide HX; omega
    have H3 : Hid (MAt ((w.setCell ⟨tb, k, none⟩ (.bool true)).setCell ⟨qb, 3, none⟩ (.int .i64 x)) qb tb n rd (toldUp told k) true x time) := (H.out.setT k).set3 _
    have HO3 : Hid (Only [qb, tb] w ((w.setCell ⟨tb, k, none⟩ (.bool true)).setCell ⟨qb, 3, none⟩ (.int .i64 x))) := ((Only.refl _ _).setIn (by simp) _).setIn (by simp) _
    generalize (w.setCell ⟨tb, k, none⟩ (.bool true)).setCell ⟨qb, 3, none⟩ (.int .i64 x) = w3 at *
    clear c0 c1 c2 c3 c4 z2 z3 z4 zt cc hlt hlt2 g1 g2 g3 g4
    have c2 := H3.out.c2
    have c3 := H3.out.c3
    have c4 := H3.out.c4
    have z2 := H3.out.z 2
    have z4 := H3.out.z 4
    have hlt := H3.out.lt
    refine (containsb_any hn H3.out.tl).mono ?_
    rintro e w' ⟨rfl, rfl⟩
    rw [unhide HB]
    go_wp2_with fail
    go_region
    all_goals go_wp2_with fail
    · have hlt' : time < x := by assumption
      go_ret2
      have e : y = x := by have := unhide HY; omega
      rw [e]
      exact ⟨rfl, (((H3.out.set2 false).set4 _).drewN 1), (((HO3.out.setIn (by simp) _).setIn (by simp) _).drew)⟩
    · have hle' : x ≤ time := by assumption
      go_ret2
      have e : y = time := by have := unhide HY; omega
      rw [e]
      exact ⟨rfl, (((H3.out.set2 false).set4 _).drewN 1), (((HO3.out.setIn (by simp) _).setIn (by simp) _).drew)⟩
  · obtain rfl : x = least := by have := unhide HX; omega
    have H3 : Hid (MAt ((w.setCell ⟨tb, k, none⟩ (.bool true)).setCell ⟨qb, 3, none⟩ (.int .i64 x)) qb tb n rd (toldUp told k) true x time) := (H.out.setT k).set3 _
    have HO3 : Hid (Only [qb, tb] w ((w.setCell ⟨tb, k, none⟩ (.bool true)).setCell ⟨qb, 3, none⟩ (.int .i64 x))) := ((Only.refl _ _).setIn (by simp) _).setIn (by simp) _
    generalize (w.setCell ⟨tb, k, none⟩ (.bool true)).setCell ⟨qb, 3, none⟩ (.int .i64 x) = w3 at *
    clear c0 c1 c2 c3 c4 z2 z3 z4 zt cc hlt hlt2 g1 g2 g3 g4
    have c2 := H3.out.c2
    have c3 := H3.out.c3
    have c4 := H3.out.c4
    have z2 := H3.out.z 2
    have z4 := H3.out.z 4
    have hlt := H3.out.lt
    refine (containsb_any hn H3.out.tl).mono ?_
    rintro e w' ⟨rfl, rfl⟩
    rw [unhide HB]
    go_wp2_with fail
    go_region
    all_goals go_wp2_with fail
    · have hlt' : time < x := by assumption
      go_ret2
      have e : y = x := by have := unhide HY; omega
      rw [e]
      exact ⟨rfl, (((H3.out.set2 false).set4 _).drewN 1), (((HO3.out.setIn (by simp) _).setIn (by simp) _).drew)⟩
    · have hle' : x ≤ time := by assumption
      go_ret2
      have e : y = time := by have := unhide HY; omega
      rw [e]
      exact ⟨rfl, (((H3.out.set2 false).set4 _).drewN 1), (((HO3.out.setIn (by simp) _).setIn (by simp) _).drew)⟩

set_option maxHeartbeats 2000000 in
theorem report_more {k : Nat} {x : Int} (h : MAt w qb tb n rd told true least time) (hn : n ≤ 1000000) (hk : k < n) (ht : IsTime at_) (hf : told k = false) (hb : allTold n (toldUp told k) = false) (hx : min least at_ = x) :
    Calls Try.prog 29 #[.pointer (some ⟨qb, 0, none⟩), .int .i64 k, .int .i64 rd, .int .i64 at_] w fun e w' =>
      e = .returned (.tuple #[.bool false, .int .i64 0]) ∧ MAt w' qb tb n rd (toldUp told k) true x time ∧ Only [qb, tb] w w' := by
  have c0 := h.c0
  have c1 := h.c1
  have c2 := h.c2
  have c3 := h.c3
  have c4 := h.c4
  have hlt := h.lt
  have hlt2 := h.tl.lt
  have z2 := h.z 2
  have z3 := h.z 3
  have z4 := h.z 4
  have zt := h.tl.frozen k
  have cc := h.tl.cell hk
  have hne := h.ne
  have hne' : qb ≠ tb := fun e => hne e.symm
  have g1 : decide ((k : Int) < 0) = false := by simp
  have g2 : decide ((n : Int) ≤ (k : Int)) = false := by simp; omega
  have g3 : decide (n ≤ k) = false := by simp; omega
  have g4 : (rd != rd) = false := by simp
  rw [hf] at cc
  have HT : Hid (decide (IsTime at_) = true) := by show decide (IsTime at_) = true; simpa using ht
  have H : Hid (MAt w qb tb n rd told true least time) := h
  have HX := hide hx
  have HB := hide hb
  clear h ht hf hx hb
  go_enter Try.func29, Try.ntmps29
  go_wp2_with (go_at_call 40; refine (time_any _).mono ?_; rintro e w' ⟨rfl, rfl⟩; rw [unhide HT])
  · obtain rfl : x = at_ := by have := unhide HX; omega
    have H3 : Hid (MAt ((w.setCell ⟨tb, k, none⟩ (.bool true)).setCell ⟨qb, 3, none⟩ (.int .i64 x)) qb tb n rd (toldUp told k) true x time) := (H.out.setT k).set3 _
    have HO3 : Hid (Only [qb, tb] w ((w.setCell ⟨tb, k, none⟩ (.bool true)).setCell ⟨qb, 3, none⟩ (.int .i64 x))) := ((Only.refl _ _).setIn (by simp) _).setIn (by simp) _
    generalize (w.setCell ⟨tb, k, none⟩ (.bool true)).setCell ⟨qb, 3, none⟩ (.int .i64 x) = w3 at *
    clear c0 c1 c2 c3 c4 z2 z3 z4 zt cc hlt hlt2 g1 g2 g3 g4
    have c2 := H3.out.c2
    have c3 := H3.out.c3
    have c4 := H3.out.c4
    have z2 := H3.out.z 2
    have z4 := H3.out.z 4
    have hlt := H3.out.lt
    refine (containsb_any hn H3.out.tl).mono ?_
    rintro e w' ⟨rfl, rfl⟩
    rw [unhide HB]
    go_wp2_with fail
    go_ret2
    exact ⟨rfl, H3.out, HO3.out⟩
  · obtain rfl : x = least := by have := unhide HX; omega
    have H3 : Hid (MAt ((w.setCell ⟨tb, k, none⟩ (.bool true)).setCell ⟨qb, 3, none⟩ (.int .i64 x)) qb tb n rd (toldUp told k) true x time) := (H.out.setT k).set3 _
    have HO3 : Hid (Only [qb, tb] w ((w.setCell ⟨tb, k, none⟩ (.bool true)).setCell ⟨qb, 3, none⟩ (.int .i64 x))) := ((Only.refl _ _).setIn (by simp) _).setIn (by simp) _
    generalize (w.setCell ⟨tb, k, none⟩ (.bool true)).setCell ⟨qb, 3, none⟩ (.int .i64 x) = w3 at *
    clear c0 c1 c2 c3 c4 z2 z3 z4 zt cc hlt hlt2 g1 g2 g3 g4
    have c2 := H3.out.c2
    have c3 := H3.out.c3
    have c4 := H3.out.c4
    have z2 := H3.out.z 2
    have z4 := H3.out.z 4
    have hlt := H3.out.lt
    refine (containsb_any hn H3.out.tl).mono ?_
    rintro e w' ⟨rfl, rfl⟩
    rw [unhide HB]
    go_wp2_with fail
    go_ret2
    exact ⟨rfl, H3.out, HO3.out⟩
end
end Go.Proofs.Ytdommbaljchofaa
