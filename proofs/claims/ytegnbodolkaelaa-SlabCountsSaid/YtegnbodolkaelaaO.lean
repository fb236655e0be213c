/-
  How the arguments read: a list of calls, each of seven cells.
-/
import Derived.Test.YtegnbodolkaelaaH
import Derived.Test.YtegnbodolkaelaaRows
import Derived.ProofKit
import Derived.OpenShut
import Derived.ShutString
import Derived.ChangeOld
import Derived.Deep.Slices
import Derived.Carry
namespace Go.Proofs.Ytegnbodolkaelaa
open Go.ChangeShapes Go.WideShapes Go.ChangeAt Go.RowKit Go.Deep
set_option linter.unusedVariables false

section
variable {H : Type} {enc : TypeId × Value → H} {W : World} {base : Nat} {sp : Nat → Bool} {held : Bool}

theorem Try.cells3 : Try.prog.cellsOf 3 = 1 := by kernel_rfl
theorem Try.cells4 : Try.prog.cellsOf 4 = 1 := by kernel_rfl
theorem Try.cells32 : Try.prog.cellsOf 32 = 2 := by kernel_rfl
theorem Try.cells34 : Try.prog.cellsOf 34 = 7 := by kernel_rfl

theorem some_of_lt {α : Type} {l : List α} {i : Nat} (h : i < l.length) : ∃ x, l[i]? = some x := ⟨l[i], List.getElem?_eq_getElem h⟩

theorem open_handle {n : Nat} {cs : List Value} {x : DataW H × List MemPlace} (h : DataW.trod enc Try.prog W base sp held n 32 cs = some x) : ∃ a b, cs = [.int .i64 a, .int .i64 b] := by
  obtain ⟨xs, n', _, _, hlen, hxl, hf⟩ := DataW.trod_struct Try.underlying32 h
  rw [Try.cells32] at hlen
  have h0 := hf 0 _ rfl
  have h1 := hf 1 _ rfl
  obtain ⟨y0, e0⟩ := some_of_lt (l := xs) (i := 0) (by rw [hxl]; decide)
  obtain ⟨y1, e1⟩ := some_of_lt (l := xs) (i := 1) (by rw [hxl]; decide)
  rw [e0] at h0
  rw [e1] at h1
  obtain ⟨a, ha, _⟩ := DataW.trod_int Try.underlying3 h0
  obtain ⟨b, hb, _⟩ := DataW.trod_int Try.underlying3 h1
  match cs, hlen with
  | [c0, c1], _ =>
    simp [Try.cells3] at ha hb
    exact ⟨a, b, by rw [ha, hb]⟩

theorem open_op {n : Nat} {cs : List Value} {x : DataW H × List MemPlace} (h : DataW.trod enc Try.prog W base sp held n 34 cs = some x) :
    ∃ o : OpV, cs = [.int .i64 o.ask, .int .i64 o.cls, .bool o.urg, .int .i64 o.v, .int .i64 o.pl, .int .i64 o.hs, .int .i64 o.ht] ∧ (-9223372036854775808 ≤ o.pl ∧ o.pl ≤ 9223372036854775807) := by
  obtain ⟨xs, n', _, _, hlen, hxl, hf⟩ := DataW.trod_struct Try.underlying34 h
  rw [Try.cells34] at hlen
  have h0 := hf 0 _ rfl
  have h1 := hf 1 _ rfl
  have h2 := hf 2 _ rfl
  have h3 := hf 3 _ rfl
  have h4 := hf 4 _ rfl
  have h5 := hf 5 _ rfl
  obtain ⟨y0, e0⟩ := some_of_lt (l := xs) (i := 0) (by rw [hxl]; decide)
  obtain ⟨y1, e1⟩ := some_of_lt (l := xs) (i := 1) (by rw [hxl]; decide)
  obtain ⟨y2, e2⟩ := some_of_lt (l := xs) (i := 2) (by rw [hxl]; decide)
  obtain ⟨y3, e3⟩ := some_of_lt (l := xs) (i := 3) (by rw [hxl]; decide)
  obtain ⟨y4, e4⟩ := some_of_lt (l := xs) (i := 4) (by rw [hxl]; decide)
  obtain ⟨y5, e5⟩ := some_of_lt (l := xs) (i := 5) (by rw [hxl]; decide)
  rw [e0] at h0
  rw [e1] at h1
  rw [e2] at h2
  rw [e3] at h3
  rw [e4] at h4
  rw [e5] at h5
  obtain ⟨a0, b0, _⟩ := DataW.trod_int Try.underlying3 h0
  obtain ⟨a1, b1, _⟩ := DataW.trod_int Try.underlying3 h1
  obtain ⟨a2, b2, _⟩ := DataW.trod_bool Try.underlying4 h2
  obtain ⟨a3, b3, _⟩ := DataW.trod_int Try.underlying3 h3
  obtain ⟨a4, b4, _, w4⟩ := DataW.trod_int Try.underlying3 h4
  obtain ⟨a5, a6, b5⟩ := open_handle h5
  have hw : -9223372036854775808 ≤ a4 ∧ a4 ≤ 9223372036854775807 := by simpa [Lit.wf, IntKind.min, IntKind.max, IntKind.signed, IntKind.bits] using w4
  match cs, hlen with
  | [c0, c1, c2, c3, c4, c5, c6], _ =>
    simp [Try.cells3, Try.cells4, Try.cells32] at b0 b1 b2 b3 b4 b5
    exact ⟨⟨a0, a1, a2, a3, a4, a5, a6⟩, by rw [b0, b1, b2, b3, b4, b5.1, b5.2], hw⟩

theorem open_ops {n : Nat} {A : Option Addr} {len cap : Nat} {x : DataW H × List MemPlace} (h : DataW.trod enc Try.prog W base (fun _ => true) held n 22 [.slice A len cap] = some x) (hlt : ∀ p ∈ x.2, p.block < W.heap.size) :
    len ≤ 9223372036854775807 ∧ ∃ ops : Nat → OpV, OpsAt W A len ops := by
  rcases open_slice Try.underlying22 h with ⟨hcs, _⟩ | ⟨a, len', cap', m, n', D, Pl, hcs, _, hl, hm, hmm, hx, hi⟩
  · simp at hcs
    obtain ⟨rfl, rfl, rfl⟩ := hcs
    exact ⟨by omega, fun _ => ⟨0, 0, false, 0, 0, 0, 0⟩, fun i hi => absurd hi (by omega)⟩
  · simp at hcs
    obtain ⟨rfl, rfl, rfl⟩ := hcs
    simp at hmm
    subst hmm
    refine ⟨by unfold maxLen at hm; omega, ?_⟩
    have hone : ∀ i, ∃ o : OpV, i < len → a.spot = none ∧ a.block < W.heap.size ∧ (-9223372036854775808 ≤ o.pl ∧ o.pl ≤ 9223372036854775807) ∧
        W.cell? ⟨a.block, a.off + i * 7, none⟩ = some (.int .i64 o.ask) ∧ W.cell? ⟨a.block, a.off + i * 7 + 1, none⟩ = some (.int .i64 o.cls) ∧ W.cell? ⟨a.block, a.off + i * 7 + 2, none⟩ = some (.bool o.urg) ∧
        W.cell? ⟨a.block, a.off + i * 7 + 3, none⟩ = some (.int .i64 o.v) ∧ W.cell? ⟨a.block, a.off + i * 7 + 4, none⟩ = some (.int .i64 o.pl) ∧ W.cell? ⟨a.block, a.off + i * 7 + 5, none⟩ = some (.int .i64 o.hs) ∧
        W.cell? ⟨a.block, a.off + i * 7 + 6, none⟩ = some (.int .i64 o.ht) := by
      intro i
      by_cases hil : i < len
      · obtain ⟨cs', hc, ht⟩ := hi i (by omega)
        rw [Try.cells34] at hc
        obtain ⟨_, _, hat⟩ := World.cells?_some hc
        obtain ⟨o, rfl, hw⟩ := open_op ht
        refine ⟨o, fun _ => ?_⟩
        have hadd : ∀ j, j < 7 → ((a.add (i * 7)).add j).block = a.block ∧ ((a.add (i * 7)).add j).off = a.off + i * 7 + j := by
          intro j _
          unfold Addr.add
          by_cases e : i * 7 = 0 <;> by_cases e' : j = 0 <;> simp [e, e', Nat.add_assoc]
        have hspot : ∀ j u, j < 7 → W.cell? ((a.add (i * 7)).add j) = some u → W.cell? ⟨a.block, a.off + i * 7 + j, none⟩ = some u := by
          intro j u hj hu
          have h1 := World.cell?_spot hu
          obtain ⟨h2, h3⟩ := hadd j hj
          rw [← hu]
          congr 1
          rw [← h2, ← h3, ← h1]
        have g := fun j u hj (hu : [Value.int .i64 o.ask, .int .i64 o.cls, .bool o.urg, .int .i64 o.v, .int .i64 o.pl, .int .i64 o.hs, .int .i64 o.ht][j]? = some u) => hspot j u hj ((hat j hj).trans hu)
        have g0 := g 0 _ (by omega) rfl
        have hsp : a.spot = none := by
          have h0 := hat 0 (by omega)
          have h1 := World.cell?_spot (h0.trans (show _ = some (Value.int .i64 o.ask) from rfl))
          unfold Addr.add at h1
          by_cases e : i * 7 = 0
          · simpa [e] using h1
          · have hi0 := hi 0 (by omega)
            obtain ⟨cs0, hc0, ht0⟩ := hi0
            rw [Try.cells34] at hc0
            obtain ⟨_, hl0, hat0⟩ := World.cells?_some hc0
            obtain ⟨o0, rfl, _⟩ := open_op ht0
            have h2 := World.cell?_spot ((hat0 0 (by omega)).trans (show _ = some (Value.int .i64 o0.ask) from rfl))
            simpa [Addr.add] using h2
        exact ⟨hsp, (by simpa using World.block_lt_of_cell? W ⟨a.block, a.off + i * 7 + 0, none⟩ g0), hw, g0, g 1 _ (by omega) rfl, g 2 _ (by omega) rfl, g 3 _ (by omega) rfl, g 4 _ (by omega) rfl, g 5 _ (by omega) rfl, g 6 _ (by omega) rfl⟩
      · exact ⟨⟨0, 0, false, 0, 0, 0, 0⟩, fun h => absurd h hil⟩
    refine ⟨fun i => (hone i).choose, fun i hil => ?_⟩
    obtain ⟨h1, h2, h3⟩ := (hone i).choose_spec hil
    exact ⟨a.block, a.off, by rw [← h1], h2, h3⟩

theorem Try.cells41 : Try.prog.cellsOf 41 = 2 := by kernel_rfl
theorem list_two {α : Type} {l : List α} (h : l.length = 2) : ∃ a b, l = [a, b] := by
  match l, h with
  | [a, b], _ => exact ⟨a, b, rfl⟩
/-- Two numbers by value. -/
theorem open_two {r : Reach} {b : Nat} {v : Value} {d : DataW H} {p : List MemPlace} (hv : Value.okWide Try.prog W r b 41 v) (h : DataW.Trod enc Try.prog W base sp held 41 v d p) :
    ∃ x0 x1, v = .agg #[.int .i64 x0, .int .i64 x1] := by
  simp only [Value.okWide, Try.underlying41] at hv
  obtain ⟨cs, rfl, hsz, _⟩ := hv
  obtain ⟨fuel, hf⟩ := h
  obtain ⟨xs, m, _, _, _, hxl, hg⟩ := DataW.trod_array Try.underlying41 hf
  obtain ⟨l⟩ := cs
  obtain ⟨c0, c1, rfl⟩ := list_two (l := l) (by simpa [Try.cells41] using hsz)
  have h0 := hg 0 (by omega)
  have h1 := hg 1 (by omega)
  obtain ⟨y0, e0⟩ := some_of_lt (l := xs) (i := 0) (by rw [hxl]; decide)
  obtain ⟨y1, e1⟩ := some_of_lt (l := xs) (i := 1) (by rw [hxl]; decide)
  rw [e0] at h0
  rw [e1] at h1
  obtain ⟨a, ha, _⟩ := DataW.trod_int Try.underlying3 h0
  obtain ⟨b, hb, _⟩ := DataW.trod_int Try.underlying3 h1
  simp [Try.cells3, Value.cells] at ha hb
  exact ⟨a, b, by rw [ha, hb]⟩
end
end Go.Proofs.Ytegnbodolkaelaa
