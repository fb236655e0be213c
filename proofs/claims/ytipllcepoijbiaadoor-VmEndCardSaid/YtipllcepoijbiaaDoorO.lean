/-
  How the arguments read: a case; a program; and the laid table.
-/
import Derived.Test.YtipllcepoijbiaaDoorX
import Derived.ProofKit
import Derived.OpenShut
import Derived.ShutString
import Derived.ChangeOld
import Derived.ChangeSlices
import Derived.Deep.Slices
import Derived.Carry
import Derived.LaidMore
import Derived.Stop.Joined
namespace Go.Proofs.YtipllcepoijbiaaDoor
open Go.ChangeShapes Go.WideShapes Go.ChangeAt Go.RowKit Go.Deep
set_option linter.unusedVariables false
set_option linter.unusedSimpArgs false

theorem gShapes : Tryd.prog.globalNamed "boomerang/code.shapes" = some 0 := by kernel_rfl
theorem tShapes : (Tryd.prog.globals[0]?).map (·.type) = some 64 := by kernel_rfl
theorem c57 : Tryd.prog.cellsOf 57 = 2 := by kernel_rfl
theorem c55 : Tryd.prog.cellsOf 55 = 1 := by kernel_rfl
theorem c9 : Tryd.prog.cellsOf 9 = 1 := by kernel_rfl
theorem c33 : Tryd.prog.cellsOf 33 = 5 := by kernel_rfl
theorem c30 : Tryd.prog.cellsOf 30 = 13 := by kernel_rfl
theorem c28 : Tryd.prog.cellsOf 28 = 7 := by kernel_rfl
theorem c26 : Tryd.prog.cellsOf 26 = 4 := by kernel_rfl
theorem c24 : Tryd.prog.cellsOf 24 = 4 := by kernel_rfl
theorem c22 : Tryd.prog.cellsOf 22 = 1 := by kernel_rfl

section
variable {H : Type} {enc : TypeId × Value → H} {W : World} {base : Nat} {sp : Nat → Bool} {held : Bool}
theorem bytes_eq {s t : ByteArray} (h : s.data.toList = t.data.toList) : s = t := by
  cases s; cases t
  simp only at h
  congr 1
  exact Array.toList_inj.1 h
/-- One shape of the table. -/
theorem open_shape {n : Nat} {cs : List Value} {x : DataW H × List MemPlace} {a b : List UInt8} (h : DataW.trod enc Tryd.prog W base sp held n 57 cs = some x) (hx : x.1 = .agg [.agg [.lit (.string a)], .lit (.string b)]) :
    ∃ wd : ByteArray, cs = [.string wd, .string ⟨b.toArray⟩] := by
  obtain ⟨y0, y1, n', rfl, hl, h0, h1⟩ := trod_struct2 Tryd.underlying57 h
  rw [c57] at hl
  simp only [c55, c9] at h0 h1
  obtain ⟨z0, m, hz, hl0, h00⟩ := trod_struct1 Tryd.underlying55 h0
  simp only [c9] at h00
  obtain ⟨s0, e0, _, _⟩ := DataW.trod_string Tryd.underlying9 h00
  obtain ⟨s1, e1, hy1, _⟩ := DataW.trod_string Tryd.underlying9 h1
  match cs, hl with
  | [p0, p1], _ =>
    simp at e0 e1
    subst e0 e1
    rw [hy1] at hx
    simp only [DataW.agg.injEq, List.cons.injEq, and_true, DataW.lit.injEq, Lit.string.injEq] at hx
    refine ⟨s0, ?_⟩
    rw [bytes_eq (s := s1) (t := ⟨b.toArray⟩) (by simpa using hx.2)]
theorem open_table {n : Nat} {cs : List Value} {x : DataW H × List MemPlace} (h : DataW.trod enc Tryd.prog W base sp held n 64 cs = some x) (hx : x.1 = Rows.laid_boomerang_code_shapes) :
    ∀ i : Nat, i < 16 → ∃ wd : ByteArray, cs[i * 2]? = some (.string wd) ∧ cs[i * 2 + 1]? = some (.string (kindsS i)) := by
  obtain ⟨xs, m, _, rfl, hl, hlen, hf⟩ := DataW.trod_array Tryd.underlying64 h
  intro i hi
  have hi1 := hf i hi
  rw [c57] at hi1
  obtain ⟨y, hy⟩ := some_of_lt (l := xs) (i := i) (by omega)
  rw [hy] at hi1
  simp only at hx
  have hmap : (xs.map (·.1))[i]? = some y.1 := by rw [List.getElem?_map, hy]; rfl
  have hL : ∃ a, y.1 = .agg [.agg [.lit (.string a)], .lit (.string (kindsL i))] := by
    have key : ∀ L : List (DataW H), DataW.agg (xs.map (·.1)) = DataW.agg L → L[i]? = some y.1 := fun L e => by
      rw [DataW.agg.injEq] at e
      rw [← e]; exact hmap
    have := key _ hx
    rcases (show i = 0 ∨ i = 1 ∨ i = 2 ∨ i = 3 ∨ i = 4 ∨ i = 5 ∨ i = 6 ∨ i = 7 ∨ i = 8 ∨ i = 9 ∨ i = 10 ∨ i = 11 ∨ i = 12 ∨ i = 13 ∨ i = 14 ∨ i = 15 by omega) with rfl | rfl | rfl | rfl | rfl | rfl | rfl | rfl | rfl | rfl | rfl | rfl | rfl | rfl | rfl | rfl <;> (injection this with this; exact ⟨_, this.symm⟩)
  obtain ⟨a, ha⟩ := hL
  obtain ⟨wd, hw⟩ := open_shape hi1 ha
  refine ⟨wd, ?_, ?_⟩
  · have h0 : ((cs.drop (i * 2)).take 2)[0]? = some (.string wd) := by rw [hw]; rfl
    rw [List.getElem?_take, if_pos (by decide), List.getElem?_drop] at h0
    exact h0
  · have h0 : ((cs.drop (i * 2)).take 2)[1]? = some (.string (kindsS i)) := by rw [hw]; rfl
    rw [List.getElem?_take, if_pos (by decide), List.getElem?_drop] at h0
    exact h0
end
theorem of_laid {W : World} (h : laidMetH Tryd.prog [("boomerang/code.shapes", Rows.laid_boomerang_code_shapes)] W) : TabAt W := by
  rw [MakeChecks.laidMetH_plain _ _ _ (by kernel_rfl)] at h
  obtain ⟨ps, ⟨g0, t0, cs0, f0, p0, q0, hg0, ht0, hv0, hd0, _, _⟩, _, _⟩ := h
  obtain rfl := Option.some.inj (gShapes.symm.trans hg0)
  obtain rfl := Option.some.inj (tShapes.symm.trans ht0)
  have htab := open_table hd0 rfl
  have hcell : ∀ i v, cs0.toList[i]? = some v → W.cell? ⟨0, i, none⟩ = some v := fun i v hi => by
    have := World.var?_cell hg0 hv0 i
    rw [this]
    simpa using hi
  refine ⟨?_, fun i hi => ?_⟩
  · obtain ⟨wd, h1, _⟩ := htab 0 (by decide)
    simpa using World.block_lt_of_cell? W ⟨0, 0 * 2, none⟩ (hcell _ _ h1)
  · obtain ⟨wd, h1, h2⟩ := htab i hi
    exact ⟨wd, hcell _ _ h1, hcell _ _ h2⟩
end Go.Proofs.YtipllcepoijbiaaDoor
