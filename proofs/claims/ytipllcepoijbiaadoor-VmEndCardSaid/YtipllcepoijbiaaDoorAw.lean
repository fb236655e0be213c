/-
  The chapter's example.
-/
import Derived.Test.YtipllcepoijbiaaDoorEq
namespace Go.Proofs.YtipllcepoijbiaaDoor
open Go.RowKit Go.Deep
set_option linter.unusedVariables false
set_option linter.unusedSimpArgs false
theorem owns_cells {w : World} {base : Nat} {e : TypeId} {size : Nat} {v : Value} {n : Nat} {xs : List Value} (h : w.ownsRow base e size v n xs) (hn : 0 < n) :
    ∃ g cap, v = .slice (some ⟨g, 0, none⟩) n cap ∧ n ≤ cap ∧ base ≤ g ∧ g < w.heap.size ∧ ∀ j u, xs[j]? = some u → w.cell? ⟨g, j, none⟩ = some u := by
  rcases h.2 with ⟨rfl, h0⟩ | ⟨g, cap, cur, rfl, hb, hg, hc, _, hs, ht⟩
  · omega
  · refine ⟨g, cap, rfl, hc, hb, (Array.getElem?_eq_some_iff.1 hg).1, fun j u hu => ?_⟩
    rw [cell_of_row _ _ j cur e (0, 0) hg]
    rw [← ht, List.getElem?_take] at hu
    split at hu
    · simpa using hu
    · cases hu
def exP : List I := [⟨12, 4, 0, 0, 0⟩, ⟨3, 0, 0, 4, 0⟩, ⟨1, 5, 1, 0, 0⟩, ⟨14, 6, 5, 0, 7⟩]
def exS : Nat → Int := fun j => if j = 0 then 3 else 0
def exE : Nat → Int := fun j => if j = 6 then 5 else 0
theorem exK : Still exP 4 := by
  refine ⟨fun i x hx hi => ?_, fun x hx => ?_, by decide⟩
  · rcases (show i = 0 ∨ i = 1 ∨ i = 2 ∨ i = 3 by omega) with rfl | rfl | rfl | rfl <;> (injection hx with hx; subst hx; exact ⟨by decide, by decide⟩)
  · cases hx
def exR : S × Nat := runV exP exE 8 100 ⟨csOf exS, 0, []⟩ 0
theorem exR_L : exR.1.L = [⟨0, 1, 7, 8⟩] := by kernel_rfl
theorem exR_n : exR.2 = 4 := by kernel_rfl
theorem exR_0 : exR.1.cs 0 = 8 := by kernel_rfl
theorem exR_1 : exR.1.cs 1 = 0 := by kernel_rfl
theorem exR_2 : exR.1.cs 2 = 0 := by kernel_rfl
theorem exR_3 : exR.1.cs 3 = 0 := by kernel_rfl
theorem exP_at (w : World) : PAt (w.alloc (.cells #[.int .i64 12, .int .i64 4, .int .i64 0, .int .i64 0, .int .i64 0, .int .i64 3, .int .i64 0, .int .i64 0, .int .i64 4, .int .i64 0, .int .i64 1, .int .i64 5, .int .i64 1, .int .i64 0, .int .i64 0, .int .i64 14, .int .i64 6, .int .i64 5, .int .i64 0, .int .i64 7] 33)) (some ⟨w.heap.size, 0, none⟩) exP := by
  intro j x hx
  have hj : j < 4 := by simpa [exP] using (List.getElem?_eq_some_iff.1 hx).1
  have hc : ∀ q v, (#[.int .i64 12, .int .i64 4, .int .i64 0, .int .i64 0, .int .i64 0, .int .i64 3, .int .i64 0, .int .i64 0, .int .i64 4, .int .i64 0, .int .i64 1, .int .i64 5, .int .i64 1, .int .i64 0, .int .i64 0, .int .i64 14, .int .i64 6, .int .i64 5, .int .i64 0, .int .i64 7] : Array Value)[q]? = some v → (w.alloc (.cells #[.int .i64 12, .int .i64 4, .int .i64 0, .int .i64 0, .int .i64 0, .int .i64 3, .int .i64 0, .int .i64 0, .int .i64 4, .int .i64 0, .int .i64 1, .int .i64 5, .int .i64 1, .int .i64 0, .int .i64 0, .int .i64 14, .int .i64 6, .int .i64 5, .int .i64 0, .int .i64 7] 33)).cell? ⟨w.heap.size, q, none⟩ = some v := fun q v hq => (cell_of_row _ w.heap.size q _ 33 (0, 0) (heap_alloc_last w _)).trans hq
  refine ⟨w.heap.size, 0, rfl, by simp, ?_⟩
  rcases (show j = 0 ∨ j = 1 ∨ j = 2 ∨ j = 3 by omega) with rfl | rfl | rfl | rfl <;> (injection hx with hx; subst hx; exact ⟨hc _ _ rfl, hc _ _ rfl, hc _ _ rfl, hc _ _ rfl, hc _ _ rfl⟩)
set_option maxRecDepth 100000 in
set_option maxHeartbeats 8000000 in
theorem awake_any {w : World} (hT : TabAt w) : Calls Tryd.prog 5 #[] w fun r w' => r = .returned (.bool true) ∧ Below w.heap.size w w' := by
  have HT := hide hT
  have HP := hide exP_at
  clear hT
  go_enter Tryd.func5, Tryd.ntmps5
  go_wp2_with fail
  obtain ⟨W0, hW0⟩ : ∃ W, w.alloc (Obj.cells #[Value.int IntKind.i64 12, Value.int IntKind.i64 4, Value.int IntKind.i64 0, Value.int IntKind.i64 0, Value.int IntKind.i64 0, Value.int IntKind.i64 3, Value.int IntKind.i64 0, Value.int IntKind.i64 0, Value.int IntKind.i64 4, Value.int IntKind.i64 0, Value.int IntKind.i64 1, Value.int IntKind.i64 5, Value.int IntKind.i64 1, Value.int IntKind.i64 0, Value.int IntKind.i64 0, Value.int IntKind.i64 14, Value.int IntKind.i64 6, Value.int IntKind.i64 5, Value.int IntKind.i64 0, Value.int IntKind.i64 7] 33) = W := ⟨_, rfl⟩
  have hO0 : Only [] w W0 := by rw [← hW0]; exact (Only.refl [] w).alloc _
  have hs0 : W0.heap.size = w.heap.size + 1 := by rw [← hW0]; simp
  have hP0 : PAt W0 (some ⟨w.heap.size, 0, none⟩) exP := by rw [← hW0]; exact (unhide HP) w
  rw [hW0]
  have HR := run_le (w := W0) (pv := .slice (some ⟨w.heap.size, 0, none⟩) 4 4) (A := some ⟨w.heap.size, 0, none⟩) (cap := 4) (K := 4) (p := exP) (s := exS) (e := exE) (fuel := 100) (fan := 8) (fun W hW => new_some ((unhide HT).only (hO0.trans hW) (by simp)) (Nat.lt_of_lt_of_le (show w.heap.size < W0.heap.size by omega) hW.size) rfl (by decide) (by decide) (hP0.only hW (fun _ _ => by simp))) (by decide) exK (by decide)
  rw [show (min (100 : Int) 1024).toNat = 100 from rfl] at HR
  change Calls Tryd.prog 6 #[_, _, _, _, _] W0 (fun r w' => ∃ sv, r = .returned (.tuple #[.agg #[.int .i64 (exR.1.cs 0), .int .i64 (exR.1.cs 1), .int .i64 (exR.1.cs 2), .int .i64 (exR.1.cs 3)], sv, .int .i64 (exR.2 : Int)]) ∧ w'.ownsRow W0.heap.size 38 4 sv exR.1.L.length (exR.1.L.flatMap Em.cells) ∧ Below W0.heap.size W0 w') at HR
  rw [exR_L, exR_n, exR_0, exR_1, exR_2, exR_3] at HR
  refine HR.mono ?_
  rintro _ W1 ⟨sv, rfl, hown, hB⟩
  obtain ⟨g, cap, rfl, hcap, hge, hgl, hcells⟩ := owns_cells hown (by decide)
  have c0 := hcells 0 _ rfl
  have c1 := hcells 1 _ rfl
  have c2 := hcells 2 _ rfl
  have c3 := hcells 3 _ rfl
  have hlen : ([⟨0, 1, 7, 8⟩] : List Em).length = 1 := rfl
  rw [hlen] at hcap ⊢
  have hc1 : decide (1 ≤ cap) = true := by simpa using hcap
  have HBB := hide (hO0.nil_below.trans (hB.mono hO0.size))
  clear hO0 hs0 hP0 HR hown hB hcells hlen hcap HT HP hW0
  have hgs : g ≠ W1.heap.size := by omega
  have hE : ∀ w : World, (Op.equalIn 10000 24 (.agg #[.int .i64 8, .int .i64 0, .int .i64 0, .int .i64 0]) (.agg #[.int .i64 8, .int .i64 0, .int .i64 0, .int .i64 0])).run Tryd.prog w = .ok true w := fun w => eq24 w _ _ _ _ _ _ _ _
  go_wp2_with fail
  go_ret
  refine ⟨rfl, (unhide HBB).trans ?_⟩
  exact Only.to_below (show Below w.heap.size W1 W1 from ⟨rfl, rfl, rfl, Nat.le_refl _, fun _ _ => rfl⟩) ((Only.refl [] W1).alloc _) (by simp) (unhide HBB).size
end Go.Proofs.YtipllcepoijbiaaDoor
