/-
  The statements' arguments: lists of open times, picks; are they small?
-/
import Derived.Test.YtdommbaljchofaaXP
namespace Go.Proofs.Ytdommbaljchofaa
open Go.ChangeShapes Go.WideShapes Go.ChangeAt Go.RowKit Go.Deep
set_option linter.unusedVariables false
theorem Try.cells49 : Try.prog.cellsOf 49 = 4 := by kernel_rfl
structure PickV where
  dov : Int
  a : Int
  b : Int
  l : List Int
structure PickAt (w : World) (b off : Nat) (o : PickV) (B : Option Addr) (d : Nat) : Prop where
  c0 : w.cell? ⟨b, off, none⟩ = some (.int .i64 o.dov)
  c1 : w.cell? ⟨b, off + 1, none⟩ = some (.int .i64 o.a)
  c2 : w.cell? ⟨b, off + 2, none⟩ = some (.int .i64 o.b)
  c3 : w.cell? ⟨b, off + 3, none⟩ = some (.slice B o.l.length d)
  il : IntsAt w B o.l
def PicksAt (w : World) (A : Option Addr) (n : Nat) (ps : Nat → PickV) : Prop :=
  ∀ i, i < n → ∃ b off B d, A = some ⟨b, off, none⟩ ∧ b < w.heap.size ∧ PickAt w b (off + i * 4) (ps i) B d
theorem PickAt.below {w w' : World} {b off : Nat} {o : PickV} {B : Option Addr} {d : Nat} (h : PickAt w b off o B d) (hl : b < w.heap.size) (hb : Below w.heap.size w w') : PickAt w' b off o B d :=
  ⟨(hb.cell hl).trans h.c0, (hb.cell hl).trans h.c1, (hb.cell hl).trans h.c2, (hb.cell hl).trans h.c3, h.il.only0 (Only.of_below hb [])⟩
section
variable {H : Type} {enc : TypeId × Value → H} {W : World} {base : Nat} {sp : Nat → Bool} {held : Bool}
theorem open_pick {n : Nat} {cs : List Value} {x : DataW H × List MemPlace} (h : DataW.trod enc Try.prog W base sp held n 49 cs = some x) :
    ∃ (o : PickV) (B : Option Addr) (d : Nat), cs = [.int .i64 o.dov, .int .i64 o.a, .int .i64 o.b, .slice B o.l.length d] ∧ IntsAt W B o.l := by
  obtain ⟨xs, n', _, _, hlen, hxl, hf⟩ := DataW.trod_struct Try.underlying49 h
  rw [Try.cells49] at hlen
  have h0 := hf 0 _ rfl
  have h1 := hf 1 _ rfl
  have h2 := hf 2 _ rfl
  have h3 := hf 3 _ rfl
  obtain ⟨y0, e0⟩ := some_of_lt (l := xs) (i := 0) (by rw [hxl]; decide)
  obtain ⟨y1, e1⟩ := some_of_lt (l := xs) (i := 1) (by rw [hxl]; decide)
  obtain ⟨y2, e2⟩ := some_of_lt (l := xs) (i := 2) (by rw [hxl]; decide)
  obtain ⟨y3, e3⟩ := some_of_lt (l := xs) (i := 3) (by rw [hxl]; decide)
  rw [e0] at h0
  rw [e1] at h1
  rw [e2] at h2
  rw [e3] at h3
  obtain ⟨a0, b0, _⟩ := DataW.trod_int Try.underlying3 h0
  obtain ⟨a1, b1, _⟩ := DataW.trod_int Try.underlying3 h1
  obtain ⟨a2, b2, _⟩ := DataW.trod_int Try.underlying3 h2
  obtain ⟨B, L, d, b3, hI, _⟩ := open_nums h3
  match cs, hlen with
  | [c0, c1, c2, c3], _ =>
    simp [Try.cells3, Try.cells28] at b0 b1 b2 b3
    exact ⟨⟨a0, a1, a2, L⟩, B, d, by rw [b0, b1, b2, b3], hI⟩

theorem open_picks {n : Nat} {A : Option Addr} {len cap : Nat} {x : DataW H × List MemPlace} (h : DataW.trod enc Try.prog W base (fun _ => true) held n 43 [.slice A len cap] = some x) (hlt : ∀ p ∈ x.2, p.block < W.heap.size) :
    len ≤ 9223372036854775807 ∧ ∃ ops : Nat → PickV, PicksAt W A len ops := by
  rcases open_slice Try.underlying43 h with ⟨hcs, _⟩ | ⟨a, len', cap', m, n', D, Pl, hcs, _, hl, hm, hmm, hx, hi⟩
  · simp at hcs
    obtain ⟨rfl, rfl, rfl⟩ := hcs
    exact ⟨by omega, fun _ => ⟨0, 0, 0, []⟩, fun i hi => absurd hi (by omega)⟩
  · simp at hcs
    obtain ⟨rfl, rfl, rfl⟩ := hcs
    simp at hmm
    subst hmm
    refine ⟨by unfold maxLen at hm; omega, ?_⟩
    have hone : ∀ i, ∃ o : PickV, i < len → ∃ B d, a.spot = none ∧ a.block < W.heap.size ∧ PickAt W a.block (a.off + i * 4) o B d := by
      intro i
      by_cases hil : i < len
      · obtain ⟨cs', hc, ht⟩ := hi i (by omega)
        rw [Try.cells49] at hc
        obtain ⟨_, _, hat⟩ := World.cells?_some hc
        obtain ⟨o, B, d, rfl, hI⟩ := open_pick ht
        refine ⟨o, fun _ => ⟨B, d, ?_⟩⟩
        have hadd : ∀ j, j < 4 → ((a.add (i * 4)).add j).block = a.block ∧ ((a.add (i * 4)).add j).off = a.off + i * 4 + j := by
          intro j _
          unfold Addr.add
          by_cases e : i * 4 = 0 <;> by_cases e' : j = 0 <;> simp [e, e', Nat.add_assoc]
        have hspot : ∀ j u, j < 4 → W.cell? ((a.add (i * 4)).add j) = some u → W.cell? ⟨a.block, a.off + i * 4 + j, none⟩ = some u := by
          intro j u hj hu
          have h1 := World.cell?_spot hu
          obtain ⟨h2, h3⟩ := hadd j hj
          rw [← hu]
          congr 1
          rw [← h2, ← h3, ← h1]
        have g := fun j u hj (hu : [Value.int .i64 o.dov, .int .i64 o.a, .int .i64 o.b, .slice B o.l.length d][j]? = some u) => hspot j u hj ((hat j hj).trans hu)
        have g0 := g 0 _ (by omega) rfl
        have hsp : a.spot = none := by
          have h0 := hat 0 (by omega)
          have h1 := World.cell?_spot (h0.trans (show _ = some (Value.int .i64 o.dov) from rfl))
          unfold Addr.add at h1
          by_cases e : i * 4 = 0
          · simpa [e] using h1
          · have hi0 := hi 0 (by omega)
            obtain ⟨cs0, hc0, ht0⟩ := hi0
            rw [Try.cells49] at hc0
            obtain ⟨_, hl0, hat0⟩ := World.cells?_some hc0
            obtain ⟨o0, _, _, rfl, _⟩ := open_pick ht0
            have h2 := World.cell?_spot ((hat0 0 (by omega)).trans (show _ = some (Value.int .i64 o0.dov) from rfl))
            simpa [Addr.add] using h2
        exact ⟨hsp, (by simpa using World.block_lt_of_cell? W ⟨a.block, a.off + i * 4 + 0, none⟩ g0), g0, g 1 _ (by omega) rfl, g 2 _ (by omega) rfl, g 3 _ (by omega) rfl, hI⟩
      · exact ⟨⟨0, 0, 0, []⟩, fun h => absurd h hil⟩
    refine ⟨fun i => (hone i).choose, fun i hil => ?_⟩
    obtain ⟨B, d, h1, h2, h3⟩ := (hone i).choose_spec hil
    exact ⟨a.block, a.off, B, d, by rw [← h1], h2, h3⟩
theorem open_rows {n : Nat} {A : Option Addr} {len cap : Nat} {x : DataW H × List MemPlace} (h : DataW.trod enc Try.prog W base (fun _ => true) held n 42 [.slice A len cap] = some x) (hlt : ∀ p ∈ x.2, p.block < W.heap.size) :
    len ≤ 9223372036854775807 ∧ ∃ rows : Nat → List Int, RowsAt W A len rows := by
  rcases open_slice Try.underlying42 h with ⟨hcs, _⟩ | ⟨a, len', cap', m, n', D, Pl, hcs, _, hl, hm, hmm, hx, hi⟩
  · simp at hcs
    obtain ⟨rfl, rfl, rfl⟩ := hcs
    exact ⟨by omega, fun _ => [], fun i hi => absurd hi (by omega)⟩
  · simp at hcs
    obtain ⟨rfl, rfl, rfl⟩ := hcs
    simp at hmm
    subst hmm
    refine ⟨by unfold maxLen at hm; omega, ?_⟩
    have hone : ∀ i, ∃ L : List Int, i < len → ∃ B d, a.spot = none ∧ a.block < W.heap.size ∧ RowAt W a.block (a.off + i) B d L := by
      intro i
      by_cases hil : i < len
      · obtain ⟨cs', hc, ht⟩ := hi i (by omega)
        rw [Try.cells28] at hc
        obtain ⟨_, _, hat⟩ := World.cells?_some hc
        obtain ⟨B, L, d, rfl, hI, _⟩ := open_nums ht
        refine ⟨L, fun _ => ⟨B, d, ?_⟩⟩
        have hadd : ∀ j, j < 1 → ((a.add (i * 1)).add j).block = a.block ∧ ((a.add (i * 1)).add j).off = a.off + i * 1 + j := by
          intro j _
          unfold Addr.add
          rw [Nat.mul_one]
          by_cases e : i = 0 <;> by_cases e' : j = 0 <;> simp [e, e', Nat.add_assoc]
        have hspot : ∀ j u, j < 1 → W.cell? ((a.add (i * 1)).add j) = some u → W.cell? ⟨a.block, a.off + i * 1 + j, none⟩ = some u := by
          intro j u hj hu
          have h1 := World.cell?_spot hu
          obtain ⟨h2, h3⟩ := hadd j hj
          rw [← hu]
          congr 1
          rw [← h2, ← h3, ← h1]
        have g := fun j u hj (hu : [Value.slice B L.length d][j]? = some u) => hspot j u hj ((hat j hj).trans hu)
        have g0 := g 0 _ (by omega) rfl
        have hsp : a.spot = none := by
          have h0 := hat 0 (by omega)
          have h1 := World.cell?_spot (h0.trans (show _ = some (Value.slice B L.length d) from rfl))
          unfold Addr.add at h1
          by_cases e : i * 1 = 0
          · simpa [e] using h1
          · have hi0 := hi 0 (by omega)
            obtain ⟨cs0, hc0, ht0⟩ := hi0
            rw [Try.cells28] at hc0
            obtain ⟨_, hl0, hat0⟩ := World.cells?_some hc0
            obtain ⟨B0, L0, d0, rfl, _⟩ := open_nums ht0
            have h2 := World.cell?_spot ((hat0 0 (by omega)).trans (show _ = some (Value.slice B0 L0.length d0) from rfl))
            simpa [Addr.add] using h2
        exact ⟨hsp, (by simpa using World.block_lt_of_cell? W ⟨a.block, a.off + i * 1 + 0, none⟩ g0), by simpa using g0, hI⟩
      · exact ⟨[], fun h => absurd h hil⟩
    refine ⟨fun i => (hone i).choose, fun i hil => ?_⟩
    obtain ⟨B, d, h1, h2, h3⟩ := (hone i).choose_spec hil
    exact ⟨a.block, a.off, B, d, by rw [← h1], h2, h3⟩
end
end Go.Proofs.Ytdommbaljchofaa
