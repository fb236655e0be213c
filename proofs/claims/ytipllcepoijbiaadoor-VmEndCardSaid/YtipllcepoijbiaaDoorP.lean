/-
  How a case reads.
-/
import Derived.Test.YtipllcepoijbiaaDoorO
namespace Go.Proofs.YtipllcepoijbiaaDoor
open Go.ChangeShapes Go.WideShapes Go.ChangeAt Go.RowKit Go.Deep
set_option linter.unusedVariables false
set_option linter.unusedSimpArgs false
section
variable {H : Type} {enc : TypeId × Value → H} {W : World} {base : Nat} {sp : Nat → Bool} {held : Bool}
theorem int_at {n : Nat} {cs : List Value} {x : DataW H × List MemPlace} (h : DataW.trod enc Tryd.prog W base sp held n 3 cs = some x) : ∃ a, cs[0]? = some (.int .i64 a) := by
  obtain ⟨a, e, _⟩ := DataW.trod_int Tryd.underlying3 h
  exact ⟨a, by rw [e]; rfl⟩
theorem ints24 {n : Nat} {cs : List Value} {x : DataW H × List MemPlace} (h : DataW.trod enc Tryd.prog W base sp held n 24 cs = some x) : ∀ j, j < 4 → ∃ a, cs[j]? = some (.int .i64 a) := by
  obtain ⟨xs, m, _, _, hl, hlen, hf⟩ := DataW.trod_array Tryd.underlying24 h
  intro j hj
  have h0 := hf j hj
  rw [cells3] at h0
  obtain ⟨y, hy⟩ := some_of_lt (l := xs) (i := j) (by omega)
  rw [hy] at h0
  obtain ⟨a, ha⟩ := int_at h0
  refine ⟨a, ?_⟩
  rw [List.getElem?_take, if_pos (by decide), List.getElem?_drop] at ha
  simpa using ha
theorem ints26 {n : Nat} {cs : List Value} {x : DataW H × List MemPlace} (h : DataW.trod enc Tryd.prog W base sp held n 26 cs = some x) : ∀ j, j < 4 → ∃ a, cs[j]? = some (.int .i64 a) := by
  obtain ⟨xs, m, _, _, hl, hlen, hf⟩ := DataW.trod_struct Tryd.underlying26 h
  have key : ∀ (i : Nat) (f : Field), (#[{ name := "At", type := 3, offset := 0, embedded := false, tag := "", pkgPath := "", byteOffset := 0 }, { name := "Src", type := 3, offset := 1, embedded := false, tag := "", pkgPath := "", byteOffset := 8 }, { name := "Sent", type := 3, offset := 2, embedded := false, tag := "", pkgPath := "", byteOffset := 16 }, { name := "No", type := 3, offset := 3, embedded := false, tag := "", pkgPath := "", byteOffset := 24 }] : Array Field)[i]? = some f → i < 4 → f.type = 3 → f.offset = i → ∃ a, cs[i]? = some (.int .i64 a) := by
    intro i f hi hlt ht ho
    have h0 := hf i f hi
    rw [ht, ho, cells3] at h0
    obtain ⟨y, hy⟩ := some_of_lt (l := xs) (i := i) (by rw [hlen]; exact hlt)
    rw [hy] at h0
    obtain ⟨a, ha⟩ := int_at h0
    refine ⟨a, ?_⟩
    rw [List.getElem?_take, if_pos (by decide), List.getElem?_drop] at ha
    simpa using ha
  intro j hj
  rcases lt4 hj with rfl | rfl | rfl | rfl
  · exact key 0 _ rfl (by decide) rfl rfl
  · exact key 1 _ rfl (by decide) rfl rfl
  · exact key 2 _ rfl (by decide) rfl rfl
  · exact key 3 _ rfl (by decide) rfl rfl
theorem ints28 {n : Nat} {cs : List Value} {x : DataW H × List MemPlace} (h : DataW.trod enc Tryd.prog W base sp held n 28 cs = some x) : ∀ j, j < 7 → ∃ a, cs[j]? = some (.int .i64 a) := by
  obtain ⟨xs, m, _, _, hl, hlen, hf⟩ := DataW.trod_struct Tryd.underlying28 h
  have h0 : DataW.trod enc Tryd.prog W base sp held m 26 ((cs.drop 0).take (Tryd.prog.cellsOf 26)) = xs[0]? := hf 0 _ rfl
  rw [c26] at h0
  have h1 : DataW.trod enc Tryd.prog W base sp held m 3 ((cs.drop 4).take (Tryd.prog.cellsOf 3)) = xs[1]? := hf 1 _ rfl
  rw [cells3] at h1
  have h2 : DataW.trod enc Tryd.prog W base sp held m 3 ((cs.drop 5).take (Tryd.prog.cellsOf 3)) = xs[2]? := hf 2 _ rfl
  rw [cells3] at h2
  have h3 : DataW.trod enc Tryd.prog W base sp held m 3 ((cs.drop 6).take (Tryd.prog.cellsOf 3)) = xs[3]? := hf 3 _ rfl
  rw [cells3] at h3
  have hlen4 : xs.length = 4 := hlen
  obtain ⟨y0, e0⟩ := some_of_lt (l := xs) (i := 0) (by omega)
  obtain ⟨y1, e1⟩ := some_of_lt (l := xs) (i := 1) (by omega)
  obtain ⟨y2, e2⟩ := some_of_lt (l := xs) (i := 2) (by omega)
  obtain ⟨y3, e3⟩ := some_of_lt (l := xs) (i := 3) (by omega)
  rw [e0] at h0
  rw [e1] at h1
  rw [e2] at h2
  rw [e3] at h3
  intro j hj
  by_cases hj4 : j < 4
  · obtain ⟨a, ha⟩ := ints26 h0 j hj4
    refine ⟨a, ?_⟩
    rw [List.getElem?_take, if_pos hj4, List.getElem?_drop] at ha
    simpa using ha
  · rcases (show j = 4 ∨ j = 5 ∨ j = 6 by omega) with rfl | rfl | rfl
    · obtain ⟨a, ha⟩ := int_at h1
      exact ⟨a, by rw [List.getElem?_take, if_pos (by decide), List.getElem?_drop] at ha; simpa using ha⟩
    · obtain ⟨a, ha⟩ := int_at h2
      exact ⟨a, by rw [List.getElem?_take, if_pos (by decide), List.getElem?_drop] at ha; simpa using ha⟩
    · obtain ⟨a, ha⟩ := int_at h3
      exact ⟨a, by rw [List.getElem?_take, if_pos (by decide), List.getElem?_drop] at ha; simpa using ha⟩
theorem open_case {n : Nat} {cs : List Value} {x : DataW H × List MemPlace} (h : DataW.trod enc Tryd.prog W base sp held n 30 cs = some x) :
    ∃ (pv : Value) (s e : Nat → Int) (fan : Int), cs = [pv, .int .i64 (s 0), .int .i64 (s 1), .int .i64 (s 2), .int .i64 (s 3), .int .i64 (e 0), .int .i64 (e 1), .int .i64 (e 2), .int .i64 (e 3), .int .i64 (e 4), .int .i64 (e 5), .int .i64 (e 6), .int .i64 fan] ∧ ∃ (m : Nat) (y : DataW H × List MemPlace), DataW.trod enc Tryd.prog W base sp held m 22 [pv] = some y ∧ ∀ q ∈ y.2, q ∈ x.2 := by
  obtain ⟨xs, m, _, hx, hl, hlen, hf⟩ := DataW.trod_struct Tryd.underlying30 h
  have h0 : DataW.trod enc Tryd.prog W base sp held m 22 ((cs.drop 0).take (Tryd.prog.cellsOf 22)) = xs[0]? := hf 0 _ rfl
  rw [c22] at h0
  have h1 : DataW.trod enc Tryd.prog W base sp held m 24 ((cs.drop 1).take (Tryd.prog.cellsOf 24)) = xs[1]? := hf 1 _ rfl
  rw [c24] at h1
  have h2 : DataW.trod enc Tryd.prog W base sp held m 28 ((cs.drop 5).take (Tryd.prog.cellsOf 28)) = xs[2]? := hf 2 _ rfl
  rw [c28] at h2
  have h3 : DataW.trod enc Tryd.prog W base sp held m 3 ((cs.drop 12).take (Tryd.prog.cellsOf 3)) = xs[3]? := hf 3 _ rfl
  rw [cells3] at h3
  have hlen4 : xs.length = 4 := hlen
  obtain ⟨y0, e0⟩ := some_of_lt (l := xs) (i := 0) (by omega)
  obtain ⟨y1, e1⟩ := some_of_lt (l := xs) (i := 1) (by omega)
  obtain ⟨y2, e2⟩ := some_of_lt (l := xs) (i := 2) (by omega)
  obtain ⟨y3, e3⟩ := some_of_lt (l := xs) (i := 3) (by omega)
  rw [e0] at h0
  rw [e1] at h1
  rw [e2] at h2
  rw [e3] at h3
  rw [c30] at hl
  have hall : ∀ j, ∃ a, 1 ≤ j → j < 13 → cs[j]? = some (.int .i64 a) := by
    intro j
    by_cases hj : 1 ≤ j ∧ j < 13
    · by_cases h5 : j < 5
      · obtain ⟨a, ha⟩ := ints24 h1 (j - 1) (by omega)
        refine ⟨a, fun _ _ => ?_⟩
        rw [List.getElem?_take, if_pos (by omega), List.getElem?_drop] at ha
        rw [show 1 + (j - 1) = j by omega] at ha
        exact ha
      · by_cases h12 : j < 12
        · obtain ⟨a, ha⟩ := ints28 h2 (j - 5) (by omega)
          refine ⟨a, fun _ _ => ?_⟩
          rw [List.getElem?_take, if_pos (by omega), List.getElem?_drop] at ha
          rw [show 5 + (j - 5) = j by omega] at ha
          exact ha
        · obtain ⟨a, ha⟩ := int_at h3
          refine ⟨a, fun _ _ => ?_⟩
          rw [List.getElem?_take, if_pos (by decide), List.getElem?_drop] at ha
          rw [show j = 12 by omega]
          simpa using ha
    · exact ⟨0, fun a b => absurd ⟨a, b⟩ hj⟩
  have hf' : ∀ j, 1 ≤ j → j < 13 → cs[j]? = some (.int .i64 ((fun j => (hall j).choose) j)) := fun j a b => (hall j).choose_spec a b
  generalize (fun j => (hall j).choose) = f at hf'
  clear h h1 h2 h3 hf hall
  match cs, hl, hf', h0 with
  | [a0, a1, a2, a3, a4, a5, a6, a7, a8, a9, a10, a11, a12], _, hf', h0 =>
    refine ⟨a0, fun j => f (1 + j), fun j => f (5 + j), f 12, ?_, m, y0, by simpa using h0, fun q hq => ?_⟩
    · have g1 := hf' 1 (by decide) (by decide)
      have g2 := hf' 2 (by decide) (by decide)
      have g3 := hf' 3 (by decide) (by decide)
      have g4 := hf' 4 (by decide) (by decide)
      have g5 := hf' 5 (by decide) (by decide)
      have g6 := hf' 6 (by decide) (by decide)
      have g7 := hf' 7 (by decide) (by decide)
      have g8 := hf' 8 (by decide) (by decide)
      have g9 := hf' 9 (by decide) (by decide)
      have g10 := hf' 10 (by decide) (by decide)
      have g11 := hf' 11 (by decide) (by decide)
      have g12 := hf' 12 (by decide) (by decide)
      injection g1 with g1; injection g2 with g2; injection g3 with g3; injection g4 with g4; injection g5 with g5; injection g6 with g6
      injection g7 with g7; injection g8 with g8; injection g9 with g9; injection g10 with g10; injection g11 with g11; injection g12 with g12
      rw [g1, g2, g3, g4, g5, g6, g7, g8, g9, g10, g11, g12]
    · rw [hx]
      exact List.mem_flatMap.2 ⟨y0, List.mem_of_getElem? e0, hq⟩
end
end Go.Proofs.YtipllcepoijbiaaDoor
