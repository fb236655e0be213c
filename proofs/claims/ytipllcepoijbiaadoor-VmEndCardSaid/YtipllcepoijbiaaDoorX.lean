/-
  VmNil, as it runs.
-/
import Derived.Test.YtipllcepoijbiaaDoorAw
namespace Go.Proofs.YtipllcepoijbiaaDoor
open Go.RowKit Go.Deep
set_option linter.unusedVariables false
set_option linter.unusedSimpArgs false
set_option maxRecDepth 100000 in
set_option maxHeartbeats 2000000 in
theorem cells_nil {w : World} : Calls Tryd.prog 8 #[.pointer none] w fun r w' => r = .returned (.agg #[.int .i64 0, .int .i64 0, .int .i64 0, .int .i64 0, .int .i64 0, .int .i64 0, .int .i64 0, .int .i64 0]) ∧ Only [] w w' := by
  go_enter Tryd.func8, Tryd.ntmps8
  go_wp2_with fail
  refine bodyPost_ret (v := .agg #[.int .i64 0, .int .i64 0, .int .i64 0, .int .i64 0, .int .i64 0, .int .i64 0, .int .i64 0, .int .i64 0]) (by simp [results, Tryd.results8, go_sem]) rfl ⟨rfl, ?_⟩
  repeat' (first | exact (Only.refl [] w).alloc _ | refine Only.setNew ?_ (Nat.le_refl _) _)
theorem at_nil {w : World} : Calls Tryd.prog 9 #[.pointer none] w fun r w' => r = .returned (.int .i64 0) ∧ w = w' := by
  go_enter Tryd.func9, Tryd.ntmps9
  go_wp2_with fail
  go_ret
  exact ⟨rfl, rfl⟩
theorem sent_nil {w : World} : Calls Tryd.prog 10 #[.pointer none] w fun r w' => r = .returned (.slice none 0 0) ∧ w = w' := by
  go_enter Tryd.func10, Tryd.ntmps10
  go_wp2_with fail
  go_ret
  exact ⟨rfl, rfl⟩
theorem run_none (e : Nat → Int) (fan : Int) (k : Nat) (s : S) (n : Nat) : runV [] e fan k s n = (s, n) := by
  cases k <;> rfl
theorem still_nil : Still [] 0 := ⟨fun i x h => by simp at h, fun x h => by simp at h, Nat.le_refl _⟩
/-- A run of no program. -/
theorem run_nil {w : World} {s e : Nat → Int} {fuel fan : Int} (hT : TabAt w) :
    Calls Tryd.prog 6 #[.slice none 0 0, .agg #[.int .i64 (s 0), .int .i64 (s 1), .int .i64 (s 2), .int .i64 (s 3)], .agg #[.int .i64 (e 0), .int .i64 (e 1), .int .i64 (e 2), .int .i64 (e 3), .int .i64 (e 4), .int .i64 (e 5), .int .i64 (e 6)], .int .i64 fuel, .int .i64 fan] w fun r w' =>
      ∃ A c, r = .returned (.tuple #[.agg #[.int .i64 (s 0), .int .i64 (s 1), .int .i64 (s 2), .int .i64 (s 3)], .slice A 0 c, .int .i64 0]) ∧ Below w.heap.size w w' := by
  have hnew := fun W (hW : Only [] w W) => new_nil (w := W) (s := s) (e := e) (fan := fan) (p := []) (hT.only hW (by simp)) rfl
  have key : ∀ (r : Ending) (w' : World), (∃ sv, r = .returned (.tuple #[.agg #[.int .i64 ((runV [] e fan (min fuel 1024).toNat ⟨csOf s, 0, []⟩ 0).1.cs 0), .int .i64 ((runV [] e fan (min fuel 1024).toNat ⟨csOf s, 0, []⟩ 0).1.cs 1), .int .i64 ((runV [] e fan (min fuel 1024).toNat ⟨csOf s, 0, []⟩ 0).1.cs 2), .int .i64 ((runV [] e fan (min fuel 1024).toNat ⟨csOf s, 0, []⟩ 0).1.cs 3)], sv, .int .i64 ((runV [] e fan (min fuel 1024).toNat ⟨csOf s, 0, []⟩ 0).2 : Int)]) ∧
        w'.ownsRow w.heap.size 38 4 sv (runV [] e fan (min fuel 1024).toNat ⟨csOf s, 0, []⟩ 0).1.L.length ((runV [] e fan (min fuel 1024).toNat ⟨csOf s, 0, []⟩ 0).1.L.flatMap Em.cells) ∧ Below w.heap.size w w') → ∃ A c, r = .returned (.tuple #[.agg #[.int .i64 (s 0), .int .i64 (s 1), .int .i64 (s 2), .int .i64 (s 3)], .slice A 0 c, .int .i64 0]) ∧ Below w.heap.size w w' := by
    rintro r w' ⟨sv, hr, ho, hb⟩
    rw [run_none] at hr ho
    obtain ⟨A, c, rfl⟩ := owns_form ho
    exact ⟨A, c, hr, hb⟩
  by_cases hf : fuel ≤ 1024
  · exact (run_le hnew (by simp) still_nil hf).mono key
  · exact (run_gt hnew (by simp) still_nil (by omega)).mono key
set_option maxRecDepth 100000 in
set_option maxHeartbeats 8000000 in
theorem nil_walk {w : World} {pv : Value} {s e : Nat → Int} {fan fuel : Int} (hT : TabAt w) :
    Calls Tryd.prog 4 #[.agg #[pv, .int .i64 (s 0), .int .i64 (s 1), .int .i64 (s 2), .int .i64 (s 3), .int .i64 (e 0), .int .i64 (e 1), .int .i64 (e 2), .int .i64 (e 3), .int .i64 (e 4), .int .i64 (e 5), .int .i64 (e 6), .int .i64 fan], .int .i64 fuel] w fun r w' => r = .returned (.bool true) ∧ Below w.heap.size w w' := by
  have HT := hide hT
  have HRUN : Hid (∀ W : World, TabAt W → _) := fun W (hW : TabAt W) => run_nil (s := s) (e := e) (fuel := fuel) (fan := fan) hW
  clear hT
  obtain ⟨s0, hs0⟩ : ∃ x, s 0 = x := ⟨_, rfl⟩
  obtain ⟨s1, hs1⟩ : ∃ x, s 1 = x := ⟨_, rfl⟩
  obtain ⟨s2, hs2⟩ : ∃ x, s 2 = x := ⟨_, rfl⟩
  obtain ⟨s3, hs3⟩ : ∃ x, s 3 = x := ⟨_, rfl⟩
  obtain ⟨e0, he0⟩ : ∃ x, e 0 = x := ⟨_, rfl⟩
  obtain ⟨e1, he1⟩ : ∃ x, e 1 = x := ⟨_, rfl⟩
  obtain ⟨e2, he2⟩ : ∃ x, e 2 = x := ⟨_, rfl⟩
  obtain ⟨e3, he3⟩ : ∃ x, e 3 = x := ⟨_, rfl⟩
  obtain ⟨e4, he4⟩ : ∃ x, e 4 = x := ⟨_, rfl⟩
  obtain ⟨e5, he5⟩ : ∃ x, e 5 = x := ⟨_, rfl⟩
  obtain ⟨e6, he6⟩ : ∃ x, e 6 = x := ⟨_, rfl⟩
  simp only [hs0, hs1, hs2, hs3, he0, he1, he2, he3, he4, he5, he6] at HRUN ⊢
  clear hs0 hs1 hs2 hs3 he0 he1 he2 he3 he4 he5 he6
  go_enter Tryd.func4, Tryd.ntmps4
  go_wp2_with fail
  obtain ⟨W0, hW0⟩ : ∃ W, w.alloc (Obj.cells #[pv, Value.int IntKind.i64 s0, Value.int IntKind.i64 s1, Value.int IntKind.i64 s2, Value.int IntKind.i64 s3, Value.int IntKind.i64 e0, Value.int IntKind.i64 e1, Value.int IntKind.i64 e2, Value.int IntKind.i64 e3, Value.int IntKind.i64 e4, Value.int IntKind.i64 e5, Value.int IntKind.i64 e6, Value.int IntKind.i64 fan] 30) = W := ⟨_, rfl⟩
  have hO0 : Only [] w W0 := by rw [← hW0]; exact (Only.refl [] w).alloc _
  have hs0 : W0.heap.size = w.heap.size + 1 := by rw [← hW0]; simp
  have hc : ∀ q v, (#[pv, Value.int IntKind.i64 s0, Value.int IntKind.i64 s1, Value.int IntKind.i64 s2, Value.int IntKind.i64 s3, Value.int IntKind.i64 e0, Value.int IntKind.i64 e1, Value.int IntKind.i64 e2, Value.int IntKind.i64 e3, Value.int IntKind.i64 e4, Value.int IntKind.i64 e5, Value.int IntKind.i64 e6, Value.int IntKind.i64 fan] : Array Value)[q]? = some v → W0.cell? ⟨w.heap.size, q, none⟩ = some v := fun q v hq => by
    rw [← hW0]
    exact (cell_of_row (w.alloc (Obj.cells #[pv, Value.int IntKind.i64 s0, Value.int IntKind.i64 s1, Value.int IntKind.i64 s2, Value.int IntKind.i64 s3, Value.int IntKind.i64 e0, Value.int IntKind.i64 e1, Value.int IntKind.i64 e2, Value.int IntKind.i64 e3, Value.int IntKind.i64 e4, Value.int IntKind.i64 e5, Value.int IntKind.i64 e6, Value.int IntKind.i64 fan] 30)) w.heap.size q _ 30 (0, 0) (heap_alloc_last w _)).trans hq
  rw [hW0]
  refine ((unhide HRUN) W0 ((unhide HT).only hO0 (by simp))).mono ?_
  rintro _ W1 ⟨A', c', rfl, hB⟩
  have k1 := (hB.cell (p := ⟨w.heap.size, 1, none⟩) (by simp; omega)).trans (hc 1 _ rfl)
  have k2 := (hB.cell (p := ⟨w.heap.size, 2, none⟩) (by simp; omega)).trans (hc 2 _ rfl)
  have k3 := (hB.cell (p := ⟨w.heap.size, 3, none⟩) (by simp; omega)).trans (hc 3 _ rfl)
  have k4 := (hB.cell (p := ⟨w.heap.size, 4, none⟩) (by simp; omega)).trans (hc 4 _ rfl)
  have hlt : w.heap.size < W1.heap.size := Nat.lt_of_lt_of_le (by omega) hB.size
  have HB1 := hide (hO0.nil_below.trans (hB.mono hO0.size))
  have HT1 : Hid (TabAt W1) := ((unhide HT).only hO0 (by simp)).below hB (by have := (unhide HT).1; omega)
  have hE : ∀ w : World, (Op.equalIn 10000 24 (.agg #[.int .i64 s0, .int .i64 s1, .int .i64 s2, .int .i64 s3]) (.agg #[.int .i64 s0, .int .i64 s1, .int .i64 s2, .int .i64 s3])).run Tryd.prog w = .ok true w := fun w => by
    rw [eq24]; simp
  have hE2 := eq41
  clear hO0 hs0 hc hW0 hB HRUN
  go_wp2_with fail
  refine step_nil.mono ?_
  rintro _ W2 ⟨rfl, kk⟩
  have hna : ∀ q v, (#[Value.int IntKind.i64 s0, Value.int IntKind.i64 s1, Value.int IntKind.i64 s2, Value.int IntKind.i64 s3] : Array Value)[q]? = some v → (W1.alloc (Obj.cells #[Value.int IntKind.i64 s0, Value.int IntKind.i64 s1, Value.int IntKind.i64 s2, Value.int IntKind.i64 s3] 24)).cell? ⟨W1.heap.size, q, none⟩ = some v := fun q v hq =>
    (cell_of_row (W1.alloc (Obj.cells #[Value.int IntKind.i64 s0, Value.int IntKind.i64 s1, Value.int IntKind.i64 s2, Value.int IntKind.i64 s3] 24)) W1.heap.size q _ 24 (0, 0) (heap_alloc_last W1 _)).trans hq
  have HNA := hide hna
  have HKK := hide kk
  clear kk hna
  go_wp2_with fail
  refine cells_nil.mono ?_
  rintro _ W3 ⟨rfl, k3'⟩
  have kk := (unhide HKK).trans k3'
  have hO13 : Only [] W1 W3 := ((Only.refl [] W1).alloc _).trans kk
  have m0 := (kk.cell (p := ⟨W1.heap.size, 0, none⟩) (by simp) (by simp)).trans ((unhide HNA) 0 _ rfl)
  have m1 := (kk.cell (p := ⟨W1.heap.size, 1, none⟩) (by simp) (by simp)).trans ((unhide HNA) 1 _ rfl)
  have m2 := (kk.cell (p := ⟨W1.heap.size, 2, none⟩) (by simp) (by simp)).trans ((unhide HNA) 2 _ rfl)
  have m3 := (kk.cell (p := ⟨W1.heap.size, 3, none⟩) (by simp) (by simp)).trans ((unhide HNA) 3 _ rfl)
  have n1 := (hO13.cell (p := ⟨w.heap.size, 1, none⟩) hlt (by simp)).trans k1
  have n2 := (hO13.cell (p := ⟨w.heap.size, 2, none⟩) hlt (by simp)).trans k2
  have n3 := (hO13.cell (p := ⟨w.heap.size, 3, none⟩) hlt (by simp)).trans k3
  have n4 := (hO13.cell (p := ⟨w.heap.size, 4, none⟩) hlt (by simp)).trans k4
  have HB3 : Hid (Below w.heap.size w W3) := (unhide HB1).trans (hO13.nil_below.mono (unhide HB1).size)
  have HA3 := hide (awake_any ((unhide HT1).only hO13 (by simp)))
  clear kk k3' hO13 k1 k2 k3 k4 HKK HNA hlt
  generalize W1.heap.size = rb at *
  go_wp2_with (first | (go_at_call 9; refine at_nil.mono ?_; rintro _ W4 ⟨rfl, rfl⟩) | (go_at_call 10; refine sent_nil.mono ?_; rintro _ W4 ⟨rfl, rfl⟩) | (go_at_call 5; refine (unhide HA3).mono ?_; rintro _ W5 ⟨rfl, hb5⟩; have HB5 := hide hb5; clear hb5))
  go_ret
  exact ⟨rfl, (unhide HB3).trans ((unhide HB5).mono (unhide HB3).size)⟩
end Go.Proofs.YtipllcepoijbiaaDoor
