/-
  The contracts of (*Slab).Get, Set, Class, Left, Live and of slices.Contains at the classes.
-/
import Derived.Test.YtegnbodolkaelaaE
import Derived.Handy
namespace Go.Proofs.Ytegnbodolkaelaa
open Go.RowKit Go.Deep
set_option linter.unusedVariables false

theorem get_stale {w : World} {sb lb fb cap : Nat} {S : Sl} {i t : Int} (hA : At w sb lb fb cap S) (hn : S.n ≤ 4096) (hs : Stale S i t) :
    Calls Try.prog 13 #[.pointer (some ⟨sb, 0, none⟩), .agg #[.int .i64 i, .int .i64 t]] w fun e w' =>
      e = .returned (.tuple #[.int .i64 0, .int .i64 12]) ∧ Only [] w w' := by
  have HA : Hid (At w sb lb fb cap S) := hA
  have H : Hid (∀ W (h : At W sb lb fb cap S), Calls Try.prog 16 #[.pointer (some ⟨sb, 0, none⟩), .agg #[.int .i64 i, .int .i64 t]] W fun e w' =>
      e = .returned (.tuple #[.pointer none, .int .i64 12]) ∧ Only [] W w') := fun W h => find_stale h hn hs
  clear hA hs hn
  go_enter Try.func13, Try.ntmps13
  go_wp2_with fail
  refine (H.out _ (HA.out.alloc _)).mono ?_
  rintro e w' ⟨rfl, ho⟩
  have HO : Hid (Only [] (w.alloc (Obj.cells #[.int .i64 i, .int .i64 t] 32)) w') := ho
  clear ho H
  go_wp2_with fail
  go_ret2
  exact ⟨rfl, ((Only.refl _ _).alloc _).trans (HO.out.mono (by simp))⟩

theorem get_ok {w : World} {sb lb fb cap : Nat} {S : Sl} {i : Nat} (hA : At w sb lb fb cap S) (hn : S.n ≤ 4096) (hi : i < S.n) (hc : S.cl i ≠ 0) :
    Calls Try.prog 13 #[.pointer (some ⟨sb, 0, none⟩), .agg #[.int .i64 i, .int .i64 (S.tn i)]] w fun e w' =>
      e = .returned (.tuple #[.int .i64 (S.vl i), .int .i64 0]) ∧ Only [] w w' := by
  have HA : Hid (At w sb lb fb cap S) := hA
  have H : Hid (∀ W (h : At W sb lb fb cap S), Calls Try.prog 16 #[.pointer (some ⟨sb, 0, none⟩), .agg #[.int .i64 i, .int .i64 (S.tn i)]] W fun e w' =>
      e = .returned (.tuple #[.pointer (some ⟨lb, i * 4, none⟩), .int .i64 0]) ∧ Only [] W w') := fun W h => find_ok h hi hn hc
  clear hA hc
  go_enter Try.func13, Try.ntmps13
  go_wp2_with fail
  refine (H.out _ (HA.out.alloc _)).mono ?_
  rintro e w' ⟨rfl, ho⟩
  have hA := (HA.out.alloc (Obj.cells #[.int .i64 i, .int .i64 (S.tn i)] 32)).only0 ho
  have k7 := hA.s3 hi
  have HO : Hid (Only [] (w.alloc (Obj.cells #[.int .i64 i, .int .i64 (S.tn i)] 32)) w') := ho
  clear ho H hA
  go_wp2_with fail
  go_ret2
  exact ⟨rfl, ((Only.refl _ _).alloc _).trans (HO.out.mono (by simp))⟩

theorem class_ok {w : World} {sb lb fb cap : Nat} {S : Sl} {i : Nat} (hA : At w sb lb fb cap S) (hn : S.n ≤ 4096) (hi : i < S.n) (hc : S.cl i ≠ 0) :
    Calls Try.prog 15 #[.pointer (some ⟨sb, 0, none⟩), .agg #[.int .i64 i, .int .i64 (S.tn i)]] w fun e w' =>
      e = .returned (.tuple #[.int .i64 (S.cl i), .int .i64 0]) ∧ Only [] w w' := by
  have HA : Hid (At w sb lb fb cap S) := hA
  have H : Hid (∀ W (h : At W sb lb fb cap S), Calls Try.prog 16 #[.pointer (some ⟨sb, 0, none⟩), .agg #[.int .i64 i, .int .i64 (S.tn i)]] W fun e w' =>
      e = .returned (.tuple #[.pointer (some ⟨lb, i * 4, none⟩), .int .i64 0]) ∧ Only [] W w') := fun W h => find_ok h hi hn hc
  clear hA hc
  go_enter Try.func15, Try.ntmps15
  go_wp2_with fail
  refine (H.out _ (HA.out.alloc _)).mono ?_
  rintro e w' ⟨rfl, ho⟩
  have hA := (HA.out.alloc (Obj.cells #[.int .i64 i, .int .i64 (S.tn i)] 32)).only0 ho
  have k7 := hA.s2 hi
  have HO : Hid (Only [] (w.alloc (Obj.cells #[.int .i64 i, .int .i64 (S.tn i)] 32)) w') := ho
  clear ho H hA
  go_wp2_with fail
  go_ret2
  exact ⟨rfl, ((Only.refl _ _).alloc _).trans (HO.out.mono (by simp))⟩

theorem set_stale {w : World} {sb lb fb cap : Nat} {S : Sl} {i t v : Int} (hA : At w sb lb fb cap S) (hn : S.n ≤ 4096) (hs : Stale S i t) :
    Calls Try.prog 14 #[.pointer (some ⟨sb, 0, none⟩), .agg #[.int .i64 i, .int .i64 t], .int .i64 v] w fun e w' =>
      e = .returned (.int .i64 12) ∧ Only [] w w' := by
  have HA : Hid (At w sb lb fb cap S) := hA
  have H : Hid (∀ W (h : At W sb lb fb cap S), Calls Try.prog 16 #[.pointer (some ⟨sb, 0, none⟩), .agg #[.int .i64 i, .int .i64 t]] W fun e w' =>
      e = .returned (.tuple #[.pointer none, .int .i64 12]) ∧ Only [] W w') := fun W h => find_stale h hn hs
  clear hA hs hn
  go_enter Try.func14, Try.ntmps14
  go_wp2_with fail
  refine (H.out _ (HA.out.alloc _)).mono ?_
  rintro e w' ⟨rfl, ho⟩
  have HO : Hid (Only [] (w.alloc (Obj.cells #[.int .i64 i, .int .i64 t] 32)) w') := ho
  clear ho H
  go_wp2_with fail
  go_ret
  exact ⟨rfl, ((Only.refl _ _).alloc _).trans (HO.out.mono (by simp))⟩

theorem set_ok {w : World} {sb lb fb cap : Nat} {S : Sl} {i : Nat} {v : Int} (hA : At w sb lb fb cap S) (hn : S.n ≤ 4096) (hi : i < S.n) (hc : S.cl i ≠ 0) :
    Calls Try.prog 14 #[.pointer (some ⟨sb, 0, none⟩), .agg #[.int .i64 i, .int .i64 (S.tn i)], .int .i64 v] w fun e w' =>
      e = .returned (.int .i64 0) ∧ At w' sb lb fb cap (S.put i v) ∧ Only [sb, lb, fb] w w' := by
  have HA : Hid (At w sb lb fb cap S) := hA
  have H : Hid (∀ W (h : At W sb lb fb cap S), Calls Try.prog 16 #[.pointer (some ⟨sb, 0, none⟩), .agg #[.int .i64 i, .int .i64 (S.tn i)]] W fun e w' =>
      e = .returned (.tuple #[.pointer (some ⟨lb, i * 4, none⟩), .int .i64 0]) ∧ Only [] W w') := fun W h => find_ok h hi hn hc
  clear hA hc
  go_enter Try.func14, Try.ntmps14
  go_wp2_with fail
  refine (H.out _ (HA.out.alloc _)).mono ?_
  rintro e w' ⟨rfl, ho⟩
  have hA := (HA.out.alloc (Obj.cells #[.int .i64 i, .int .i64 (S.tn i)] 32)).only0 ho
  have k7 := hA.s3 hi
  have z2 := hA.z2
  have HA' : Hid (At w' sb lb fb cap S) := hA
  have HO : Hid (Only [] (w.alloc (Obj.cells #[.int .i64 i, .int .i64 (S.tn i)] 32)) w') := ho
  clear ho H hA
  go_wp2_with fail
  go_ret
  exact ⟨rfl, HA'.out.put i v, ((Only.refl _ _).alloc _).trans ((HO.out.mono (by simp)).setIn (by simp) _)⟩

theorem left_any {w : World} {sb lb fb cap : Nat} {S : Sl} (hA : At w sb lb fb cap S) :
    Calls Try.prog 12 #[.pointer (some ⟨sb, 0, none⟩)] w fun e w' => e = .returned (.int .i64 S.m) ∧ w = w' := by
  have k1 := hA.c1
  clear hA
  go_enter Try.func12, Try.ntmps12
  go_wp2_with fail
  go_ret
  exact ⟨rfl, rfl⟩

set_option maxRecDepth 100000 in
set_option maxHeartbeats 1000000 in
theorem live_all {w : World} {sb lb fb cap : Nat} {S : Sl} {K : Int} (hA : At w sb lb fb cap S) (hI : S.Inv) (hB : S.Bd K) (hK : K ≤ 1000000) :
    Calls Try.prog 11 #[.pointer (some ⟨sb, 0, none⟩), .slice none 0 0] w fun e w' => e = .returned (.int .i64 ((S.n : Int) - S.m)) ∧ w = w' := by
  have hsum := hI.sum
  have k3 := hA.c3 (c := 0) (by omega)
  have k4 := hA.c3 (c := 1) (by omega)
  have k5 := hA.c3 (c := 2) (by omega)
  have k6 := hA.c3 (c := 3) (by omega)
  have k7 := hA.c3 (c := 4) (by omega)
  have b0 := hB.2 0
  have b1 := hB.2 1
  have b2 := hB.2 2
  have b3 := hB.2 3
  have b4 := hB.2 4
  have hfin : Hid (S.lv 0 + S.lv 1 + S.lv 2 + S.lv 3 + S.lv 4 = (S.n : Int) - S.m) := hsum
  clear hA hI hB hsum
  generalize S.lv 0 = x0 at *
  generalize S.lv 1 = x1 at *
  generalize S.lv 2 = x2 at *
  generalize S.lv 3 = x3 at *
  generalize S.lv 4 = x4 at *
  have i0 : ∀ w : World, (Instr.index 47 (.agg #[.int .i64 x0, .int .i64 x1, .int .i64 x2, .int .i64 x3, .int .i64 x4]) (.int .i64 0)).run Try.prog w = .ok (.int .i64 x0) w := fun _ => by kernel_rfl
  have i1 : ∀ w : World, (Instr.index 47 (.agg #[.int .i64 x0, .int .i64 x1, .int .i64 x2, .int .i64 x3, .int .i64 x4]) (.int .i64 1)).run Try.prog w = .ok (.int .i64 x1) w := fun _ => by kernel_rfl
  have i2 : ∀ w : World, (Instr.index 47 (.agg #[.int .i64 x0, .int .i64 x1, .int .i64 x2, .int .i64 x3, .int .i64 x4]) (.int .i64 2)).run Try.prog w = .ok (.int .i64 x2) w := fun _ => by kernel_rfl
  have i3 : ∀ w : World, (Instr.index 47 (.agg #[.int .i64 x0, .int .i64 x1, .int .i64 x2, .int .i64 x3, .int .i64 x4]) (.int .i64 3)).run Try.prog w = .ok (.int .i64 x3) w := fun _ => by kernel_rfl
  have i4 : ∀ w : World, (Instr.index 47 (.agg #[.int .i64 x0, .int .i64 x1, .int .i64 x2, .int .i64 x3, .int .i64 x4]) (.int .i64 4)).run Try.prog w = .ok (.int .i64 x4) w := fun _ => by kernel_rfl
  go_enter Try.func11, Try.ntmps11
  go_wp2_with fail
  go_rounds 6
  go_ret
  exact ⟨by show Ending.returned (.int .i64 (x0 + x1 + x2 + x3 + x4)) = _; rw [hfin.out], rfl⟩

/-- 'slices.Index([1, 2, 3, 4], c)' at the classes. -/
theorem index_four {w : World} {g : Nat} (h0 : w.cell? ⟨g, 0, none⟩ = some (.int .i64 1)) (h1 : w.cell? ⟨g, 1, none⟩ = some (.int .i64 2)) (h2 : w.cell? ⟨g, 2, none⟩ = some (.int .i64 3)) (h3 : w.cell? ⟨g, 3, none⟩ = some (.int .i64 4)) :
    ∀ c : Nat, c < 5 → Calls Try.prog 18 #[.slice (some ⟨g, 0, none⟩) 4 4, .int .i64 c] w fun e w' => e = .returned (.int .i64 ((c : Int) - 1)) ∧ w = w' := by
  intro c hc
  rcases (show c = 0 ∨ c = 1 ∨ c = 2 ∨ c = 3 ∨ c = 4 by omega) with rfl | rfl | rfl | rfl | rfl
  all_goals
    clear hc
    go_enter Try.func18, Try.ntmps18
    go_wp2_with fail
    go_rounds 5
    go_ret
    exact ⟨rfl, rfl⟩
theorem contains_four {w : World} {g : Nat} (h0 : w.cell? ⟨g, 0, none⟩ = some (.int .i64 1)) (h1 : w.cell? ⟨g, 1, none⟩ = some (.int .i64 2)) (h2 : w.cell? ⟨g, 2, none⟩ = some (.int .i64 3)) (h3 : w.cell? ⟨g, 3, none⟩ = some (.int .i64 4)) :
    ∀ c : Nat, c < 5 → Calls Try.prog 17 #[.slice (some ⟨g, 0, none⟩) 4 4, .int .i64 c] w fun e w' => e = .returned (.bool (decide (1 ≤ c))) ∧ w = w' := by
  intro c hc
  have H : Hid (∀ c : Nat, c < 5 → Calls Try.prog 18 #[.slice (some ⟨g, 0, none⟩) 4 4, .int .i64 c] w fun e w' => e = .returned (.int .i64 ((c : Int) - 1)) ∧ w = w') := index_four h0 h1 h2 h3
  clear h0 h1 h2 h3
  rcases (show c = 0 ∨ c = 1 ∨ c = 2 ∨ c = 3 ∨ c = 4 by omega) with rfl | rfl | rfl | rfl | rfl
  all_goals
    go_enter Try.func17, Try.ntmps17
    go_wp2_with fail
    refine (H.out _ hc).mono ?_
    rintro e w' ⟨rfl, rfl⟩
    go_wp2_with fail
    go_ret
    exact ⟨rfl, rfl⟩
end Go.Proofs.Ytegnbodolkaelaa
