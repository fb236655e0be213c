/-
  The contract of (*Slab).Live at all four classes.
-/
import Derived.Test.YtegnbodolkaelaaG
namespace Go.Proofs.Ytegnbodolkaelaa
open Go.RowKit Go.Deep
set_option linter.unusedVariables false

set_option maxRecDepth 100000 in
set_option maxHeartbeats 1000000 in
theorem live_four {w : World} {sb lb fb cap g : Nat} {S : Sl} {K : Int} (hA : At w sb lb fb cap S) (hI : S.Inv) (hB : S.Bd K) (hK : K ≤ 1000000)
    (h0 : w.cell? ⟨g, 0, none⟩ = some (.int .i64 1)) (h1 : w.cell? ⟨g, 1, none⟩ = some (.int .i64 2)) (h2 : w.cell? ⟨g, 2, none⟩ = some (.int .i64 3)) (h3 : w.cell? ⟨g, 3, none⟩ = some (.int .i64 4)) :
    Calls Try.prog 11 #[.pointer (some ⟨sb, 0, none⟩), .slice (some ⟨g, 0, none⟩) 4 4] w fun e w' => e = .returned (.int .i64 ((S.n : Int) - S.m)) ∧ w = w' := by
  have k3 := hA.c3 (c := 0) (by omega)
  have k4 := hA.c3 (c := 1) (by omega)
  have k5 := hA.c3 (c := 2) (by omega)
  have k6 := hA.c3 (c := 3) (by omega)
  have k7 := hA.c3 (c := 4) (by omega)
  have b0 := hB.2 0
  have b1 := hB.2 1
  have b2 := hB.2 2
  have b3 := hB.2 3
  have b4 := hB.2 4
  have hfin : Hid (S.lv 1 + S.lv 2 + S.lv 3 + S.lv 4 = (S.n : Int) - S.m) := by
    have := hI.sum
    have := hI.lv0
    show S.lv 1 + S.lv 2 + S.lv 3 + S.lv 4 = (S.n : Int) - S.m
    omega
  have C0 : Hid (Calls Try.prog 17 #[.slice (some ⟨g, 0, none⟩) 4 4, .int .i64 0] w fun e w' => e = .returned (.bool false) ∧ w = w') := contains_four h0 h1 h2 h3 0 (by omega)
  have C1 : Hid (Calls Try.prog 17 #[.slice (some ⟨g, 0, none⟩) 4 4, .int .i64 1] w fun e w' => e = .returned (.bool true) ∧ w = w') := contains_four h0 h1 h2 h3 1 (by omega)
  have C2 : Hid (Calls Try.prog 17 #[.slice (some ⟨g, 0, none⟩) 4 4, .int .i64 2] w fun e w' => e = .returned (.bool true) ∧ w = w') := contains_four h0 h1 h2 h3 2 (by omega)
  have C3 : Hid (Calls Try.prog 17 #[.slice (some ⟨g, 0, none⟩) 4 4, .int .i64 3] w fun e w' => e = .returned (.bool true) ∧ w = w') := contains_four h0 h1 h2 h3 3 (by omega)
  have C4 : Hid (Calls Try.prog 17 #[.slice (some ⟨g, 0, none⟩) 4 4, .int .i64 4] w fun e w' => e = .returned (.bool true) ∧ w = w') := contains_four h0 h1 h2 h3 4 (by omega)
  clear hA hI hB h0 h1 h2 h3
  generalize S.lv 0 = x0 at *
  generalize S.lv 1 = x1 at *
  generalize S.lv 2 = x2 at *
  generalize S.lv 3 = x3 at *
  generalize S.lv 4 = x4 at *
  have i0 : ∀ w : World, (Instr.index 47 (.agg #[.int .i64 x0, .int .i64 x1, .int .i64 x2, .int .i64 x3, .int .i64 x4]) (.int .i64 0)).run Try.prog w = .ok (.int .i64 x0) w := fun _ => by kernel_rfl
  have i1 : ∀ w : World, (Instr.index 47 (.agg #[.int .i64 x0, .int .i64 x1, .int .i64 x2, .int .i64 x3, .int .i64 x4]) (.int .i64 1)).run Try.prog w = .ok (.int .i64 x1) w := fun _ => by kernel_rfl
  have i2 : ∀ w : World, (Instr.index 47 (.agg #[.int .i64 x0, .int .i64 x1, .int .i64 x2, .int .i64 x3, .int .i64 x4]) (.int .i64 2)).run Try.prog w = .ok (.int .i64 x2) w := fun _ => by kernel_rfl
  have i3 : ∀ w : World, (Instr.index 47 (.agg #[.int .i64 x0, .int .i64 x1, .int .i64 x2, .int .i64 x3, .int .i64 x4]) (.int .i64 3)).run Try.prog w = .ok (.int .i64 x3) w := fun _ => by kernel_rfl
  have i4 : ∀ w : World, (Instr.index 47 (.agg #[.int .i64 x0, .int .i64 x1, .int .i64 x2, .int .i64 x3, .int .i64 x4]) (.int .i64 4)).run Try.prog w = .ok (.int .i64 x4) w := fun _ => by kernel_rfl
  go_enter Try.func11, Try.ntmps11
  go_wp2_with fail
  refine wp_loop_rounds 6 ?_
  rw [rounds_succ]
  go_wp2_with fail
  refine C0.out.mono ?_
  rintro e w' ⟨rfl, rfl⟩
  go_wp2_with fail
  rw [rounds_succ]
  go_wp2_with fail
  refine C1.out.mono ?_
  rintro e w' ⟨rfl, rfl⟩
  go_wp2_with fail
  rw [rounds_succ]
  go_wp2_with fail
  refine C2.out.mono ?_
  rintro e w' ⟨rfl, rfl⟩
  go_wp2_with fail
  rw [rounds_succ]
  go_wp2_with fail
  refine C3.out.mono ?_
  rintro e w' ⟨rfl, rfl⟩
  go_wp2_with fail
  rw [rounds_succ]
  go_wp2_with fail
  refine C4.out.mono ?_
  rintro e w' ⟨rfl, rfl⟩
  go_wp2_with fail
  rw [rounds_succ]
  go_wp2_with fail
  go_ret
  exact ⟨by show Ending.returned (.int .i64 (x1 + x2 + x3 + x4)) = _; rw [hfin.out], rfl⟩
end Go.Proofs.Ytegnbodolkaelaa
