/-
  The contracts of boomeranglaw15.awake and few.
-/
import Derived.Test.YtdommbaljchofaaD
namespace Go.Proofs.Ytdommbaljchofaa
open Go.RowKit Go.Deep Go.Maps
set_option linter.unusedVariables false

section
variable {w : World} {wb mb : Nat}
theorem wf_small {x : Int} (h : -1000000 ≤ x ∧ x ≤ 1000000) : (Lit.int .i64 x).wf = true := WalkArith.wf_i64 (by omega)
theorem aw1 (h : WAt w wb mb 0 0 Never []) : Calls Try.prog 32 #[.pointer (some ⟨wb, 0, none⟩), .int .i64 0, .int .i64 7] w fun e w' =>
    e = .returned (.int .i64 0) ∧ WAt w' wb mb 1 0 Never [(0, 7)] ∧ Only [wb, mb] w w' := by
  have h' := sent_any (no := 0) (at_ := 7) h (by omega) (wf_small (by omega))
  rw [show sentCode [] 0 7 = 0 by decide, show sentM [] 0 7 = [(0, 7)] by decide] at h'
  exact h'
theorem aw2 {A : Option Addr} {c : Nat} (h : WAt w wb mb 1 0 Never [(0, 7)]) (hI : IntsAt w A [9]) : Calls Try.prog 17 #[.pointer (some ⟨wb, 0, none⟩), .int .i64 1, .slice A 1 c] w fun e w' =>
    e = .returned (.tuple #[.int .i64 7, .int .i64 0]) ∧ WAt w' wb mb 1 1 Never [(0, 7)] ∧ Only [wb, mb] w w' := by
  have h' := start_any (round := 1) (c := c) h (by omega) (by omega) (by decide) hI
  have e : startCode 0 1 [9] = 0 := by decide
  rw [show startRes [(0, 7)] 0 Never 1 [9] = 7 by decide, e, show startRd 0 1 [9] = 1 by decide, show startLo 0 Never 1 [9] = Never by decide] at h'
  exact h'
theorem aw3 (h : WAt w wb mb 0 0 Never []) : Calls Try.prog 32 #[.pointer (some ⟨wb, 0, none⟩), .int .i64 0, .int .i64 5] w fun e w' =>
    e = .returned (.int .i64 0) ∧ WAt w' wb mb 1 0 Never [(0, 5)] ∧ Only [wb, mb] w w' := by
  have h' := sent_any (no := 0) (at_ := 5) h (by omega) (wf_small (by omega))
  rw [show sentCode [] 0 5 = 0 by decide, show sentM [] 0 5 = [(0, 5)] by decide] at h'
  exact h'
theorem aw4 (h : WAt w wb mb 1 0 Never [(0, 5)]) : Calls Try.prog 33 #[.pointer (some ⟨wb, 0, none⟩), .int .i64 0, .int .i64 1] w fun e w' =>
    e = .returned (.int .i64 0) ∧ WAt w' wb mb 1 0 5 [] ∧ Only [wb, mb] w w' := by
  have h' := acked_any (no := 0) (mark := 1) h (wf_small (by omega)) (by omega) (by omega)
  rw [show ackedCode [(0, 5)] 0 0 1 = 0 by decide, show ackedM [(0, 5)] 0 0 1 = [] by decide, show ackedLo [(0, 5)] 0 Never 0 1 = 5 by decide] at h'
  exact h'
theorem aw5 (h : WAt w wb mb 1 0 5 []) : Calls Try.prog 17 #[.pointer (some ⟨wb, 0, none⟩), .int .i64 1, .slice none 0 0] w fun e w' =>
    e = .returned (.tuple #[.int .i64 5, .int .i64 0]) ∧ WAt w' wb mb 1 1 Never [] ∧ Only [wb, mb] w w' := by
  have h' := start_any (round := 1) (A := none) (L := []) (c := 0) h (by omega) (by omega) (by decide) (fun i hi => absurd hi (by simp))
  rw [show startRes [] 0 5 1 [] = 5 by decide, show startCode 0 1 [] = 0 by decide, show startRd 0 1 [] = 1 by decide, show startLo 0 5 1 [] = Never by decide] at h'
  exact h'
end

theorem ints_one (w : World) (x : Int) (t : Nat) (b : Nat) (hb : w.heap.size = b) : IntsAt (w.alloc (.cells #[.int .i64 x] t)) (some ⟨b, 0, none⟩) [x] := by
  subst hb
  intro i hi
  have : i = 0 := by simpa using hi
  subst this
  exact ⟨_, 0, rfl, by simp, by simp⟩

set_option maxRecDepth 100000 in
set_option maxHeartbeats 2000000 in
theorem awake_any (w : World) : Calls Try.prog 11 #[] w fun e w' => e = .returned (.bool true) ∧ Below w.heap.size w w' := by
  go_enter Try.func11, Try.ntmps11
  go_wp2_with fail
  refine (new_any _).mono ?_
  rintro e w1 ⟨ab, am, rfl, hA1, hb1, ba, bm⟩
  have HA1 : Hid (WAt w1 ab am 0 0 Never []) := hA1
  have HB1 : Hid (Below w.heap.size w w1) := hb1
  have HI1 : Hid (∀ i ∈ [ab, am], w.heap.size ≤ i) := by show ∀ i ∈ [ab, am], w.heap.size ≤ i; simp; omega
  clear hA1 hb1
  go_wp2_with fail
  refine (new_any _).mono ?_
  rintro e w2 ⟨bb, bm2, rfl, hA2, hb2, bb', bm2'⟩
  have HA2 : Hid (WAt w2 ab am 0 0 Never []) := HA1.out.only0 (Only.of_below hb2 [])
  have HB2 : Hid (WAt w2 bb bm2 0 0 Never []) := hA2
  have l1 := HA1.out.lt
  have l2 := HA1.out.lt2
  have HW2 : Hid (Below w.heap.size w w2) := HB1.out.trans (hb2.mono HB1.out.size)
  have HJ : Hid (∀ i ∈ [bb, bm2], w.heap.size ≤ i) := by have := HB1.out.size; show ∀ i ∈ [bb, bm2], w.heap.size ≤ i; simp; omega
  have HN : Hid (bb ∉ [ab, am] ∧ bm2 ∉ [ab, am]) := by show bb ∉ [ab, am] ∧ bm2 ∉ [ab, am]; simp; omega
  clear hA2 hb2 l1 l2
  go_wp2_with fail
  refine (aw1 HA2.out).mono ?_
  rintro e w3 ⟨rfl, hA3, ho3⟩
  have HA3 : Hid (WAt w3 ab am 1 0 Never [(0, 7)]) := hA3
  have HB3 : Hid (WAt w3 bb bm2 0 0 Never []) := HB2.out.only ho3 HN.out.1 HN.out.2
  have HW3 : Hid (Below w.heap.size w w3) := Only.to_below HW2.out ho3 HI1.out HW2.out.size
  clear hA3 ho3
  go_wp2_with fail
  refine (aw2 (HA3.out.only0 ((Only.refl _ _).alloc _)) (ints_one _ _ _ _ rfl)).mono ?_
  rintro e w4 ⟨rfl, hA4, ho4⟩
  have HA4 : Hid (WAt w4 ab am 1 1 Never [(0, 7)]) := hA4
  have HB4 : Hid (WAt w4 bb bm2 0 0 Never []) := (HB3.out.only0 ((Only.refl _ _).alloc _)).only ho4 HN.out.1 HN.out.2
  have hw3' := HW3.out.alloc HW3.out.size (.cells #[.int .i64 9] 3)
  have HW4 : Hid (Below w.heap.size w w4) := Only.to_below hw3' ho4 HI1.out hw3'.size
  clear hA4 ho4 hw3'
  go_wp2_with fail
  refine (got_any HA4.out).mono ?_
  rintro e w' ⟨rfl, rfl⟩
  go_wp2_with fail
  refine (aw3 HB4.out).mono ?_
  rintro e w5 ⟨rfl, hB5, ho5⟩
  have HB5 : Hid (WAt w5 bb bm2 1 0 Never [(0, 5)]) := hB5
  have HW5 : Hid (Below w.heap.size w w5) := Only.to_below HW4.out ho5 HJ.out HW4.out.size
  clear hB5 ho5
  go_wp2_with fail
  refine (aw4 HB5.out).mono ?_
  rintro e w6 ⟨rfl, hB6, ho6⟩
  have HB6 : Hid (WAt w6 bb bm2 1 0 5 []) := hB6
  have HW6 : Hid (Below w.heap.size w w6) := Only.to_below HW5.out ho6 HJ.out HW5.out.size
  clear hB6 ho6
  go_wp2_with fail
  refine (aw5 HB6.out).mono ?_
  rintro e w7 ⟨rfl, hB7, ho7⟩
  have HW7 : Hid (Below w.heap.size w w7) := Only.to_below HW6.out ho7 HJ.out HW6.out.size
  clear hB7 ho7
  go_wp2_with fail
  go_ret
  exact ⟨rfl, HW7.out⟩
end Go.Proofs.Ytdommbaljchofaa
