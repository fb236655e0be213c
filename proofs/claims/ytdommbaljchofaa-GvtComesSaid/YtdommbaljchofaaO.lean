/-
  How the arguments read: a list of calls, each of five cells, the last a slice of numbers. And 'few'.
-/
import Derived.Test.YtdommbaljchofaaD
import Derived.ProofKit
import Derived.OpenShut
import Derived.ShutString
import Derived.ChangeOld
import Derived.ChangeSlices
import Derived.Deep.Slices
import Derived.Carry
namespace Go.Proofs.Ytdommbaljchofaa
open Go.ChangeShapes Go.WideShapes Go.ChangeAt Go.RowKit Go.Deep
set_option linter.unusedVariables false

/-- A call as it came in. -/
structure OpV where
  ask : Int
  a : Int
  b : Int
  c : Int
  l : List Int
def In64 (x : Int) : Prop := -9223372036854775808 ≤ x ∧ x ≤ 9223372036854775807
theorem In64.of_wf {x : Int} (h : (Lit.int .i64 x).wf = true) : In64 x := by simpa [In64, Lit.wf, IntKind.min, IntKind.max, IntKind.signed, IntKind.bits] using h
theorem In64.wf {x : Int} (h : In64 x) : (Lit.int .i64 x).wf = true := WalkArith.wf_i64 (by have := h.1; have := h.2; omega)

/-- One call lies at off: its slice behind B. -/
structure OpAt (w : World) (b off : Nat) (o : OpV) (B : Option Addr) (d : Nat) : Prop where
  c0 : w.cell? ⟨b, off, none⟩ = some (.int .i64 o.ask)
  c1 : w.cell? ⟨b, off + 1, none⟩ = some (.int .i64 o.a)
  c2 : w.cell? ⟨b, off + 2, none⟩ = some (.int .i64 o.b)
  c3 : w.cell? ⟨b, off + 3, none⟩ = some (.int .i64 o.c)
  c4 : w.cell? ⟨b, off + 4, none⟩ = some (.slice B o.l.length d)
  wa : In64 o.a
  il : IntsAt w B o.l
def OpsAt (w : World) (A : Option Addr) (n : Nat) (ops : Nat → OpV) : Prop :=
  ∀ i, i < n → ∃ b off B d, A = some ⟨b, off, none⟩ ∧ b < w.heap.size ∧ OpAt w b (off + i * 5) (ops i) B d
theorem OpsAt.below {w w' : World} {A : Option Addr} {n : Nat} {ops : Nat → OpV} (h : OpsAt w A n ops) (hb : Below w.heap.size w w') : OpsAt w' A n ops := by
  intro i hi
  obtain ⟨b, off, B, d, rfl, hlt, h0, h1, h2, h3, h4, wa, il⟩ := h i hi
  exact ⟨b, off, B, d, rfl, Nat.lt_of_lt_of_le hlt hb.size, (hb.cell hlt).trans h0, (hb.cell hlt).trans h1, (hb.cell hlt).trans h2, (hb.cell hlt).trans h3, (hb.cell hlt).trans h4, wa, il.only0 (Only.of_below hb [])⟩

section
variable {H : Type} {enc : TypeId × Value → H} {W : World} {base : Nat} {sp : Nat → Bool} {held : Bool}

theorem Try.cells3 : Try.prog.cellsOf 3 = 1 := by kernel_rfl
theorem Try.cells28 : Try.prog.cellsOf 28 = 1 := by kernel_rfl
theorem Try.cells33 : Try.prog.cellsOf 33 = 5 := by kernel_rfl

theorem open_nums {n : Nat} {cs : List Value} {x : DataW H × List MemPlace} (h : DataW.trod enc Try.prog W base sp held n 28 cs = some x) :
    ∃ B L d, cs = [.slice B L.length d] ∧ IntsAt W B L ∧ (∀ x ∈ L, In64 x) ∧ L.length ≤ 9223372036854775807 := by
  rcases open_ints Try.underlying28 Try.underlying3 Try.cells3 h with ⟨rfl, _⟩ | ⟨a, len, cap, zs, rfl, _, hl, hm, hz, _, hc, hw⟩
  · exact ⟨none, [], 0, rfl, fun i hi => absurd hi (by simp), by simp, by simp⟩
  · have hlen : len ≤ zs.length := by rw [hz]; split <;> omega
    have hL : (zs.take len).length = len := by simp; omega
    refine ⟨some a, zs.take len, cap, by rw [hL], fun i hi => ?_, fun x hx => In64.of_wf (hw x (List.mem_of_mem_take hx)), by rw [hL]; unfold maxLen at hm; omega⟩
    rw [hL] at hi
    have h0 := hc 0 (by omega)
    have h1 := hc i (by omega)
    have s0 := World.cell?_spot h0
    simp [Addr.add] at s0
    have hb : (a.add i).block = a.block ∧ (a.add i).off = a.off + i := by
      unfold Addr.add
      by_cases e : i = 0 <;> simp [e]
    have s1 := World.cell?_spot h1
    have he : a.add i = ⟨a.block, a.off + i, none⟩ := by rw [← hb.1, ← hb.2, ← s1]
    rw [he] at h1
    refine ⟨a.block, a.off, by rw [← s0], by simpa using World.block_lt_of_cell? W ⟨a.block, a.off + i, none⟩ h1, ?_⟩
    rw [h1]
    simp [List.getD, List.getElem_take, show i < zs.length by omega]

theorem open_op {n : Nat} {cs : List Value} {x : DataW H × List MemPlace} (h : DataW.trod enc Try.prog W base sp held n 33 cs = some x) :
    ∃ (o : OpV) (B : Option Addr) (d : Nat), cs = [.int .i64 o.ask, .int .i64 o.a, .int .i64 o.b, .int .i64 o.c, .slice B o.l.length d] ∧ In64 o.a ∧ IntsAt W B o.l := by
  obtain ⟨xs, n', _, _, hlen, hxl, hf⟩ := DataW.trod_struct Try.underlying33 h
  rw [Try.cells33] at hlen
  have h0 := hf 0 _ rfl
  have h1 := hf 1 _ rfl
  have h2 := hf 2 _ rfl
  have h3 := hf 3 _ rfl
  have h4 := hf 4 _ rfl
  obtain ⟨y0, e0⟩ := some_of_lt (l := xs) (i := 0) (by rw [hxl]; decide)
  obtain ⟨y1, e1⟩ := some_of_lt (l := xs) (i := 1) (by rw [hxl]; decide)
  obtain ⟨y2, e2⟩ := some_of_lt (l := xs) (i := 2) (by rw [hxl]; decide)
  obtain ⟨y3, e3⟩ := some_of_lt (l := xs) (i := 3) (by rw [hxl]; decide)
  obtain ⟨y4, e4⟩ := some_of_lt (l := xs) (i := 4) (by rw [hxl]; decide)
  rw [e0] at h0
  rw [e1] at h1
  rw [e2] at h2
  rw [e3] at h3
  rw [e4] at h4
  obtain ⟨a0, b0, _⟩ := DataW.trod_int Try.underlying3 h0
  obtain ⟨a1, b1, _, w1⟩ := DataW.trod_int Try.underlying3 h1
  obtain ⟨a2, b2, _⟩ := DataW.trod_int Try.underlying3 h2
  obtain ⟨a3, b3, _⟩ := DataW.trod_int Try.underlying3 h3
  obtain ⟨B, L, d, b4, hI, _⟩ := open_nums h4
  match cs, hlen with
  | [c0, c1, c2, c3, c4], _ =>
    simp [Try.cells3, Try.cells28] at b0 b1 b2 b3 b4
    exact ⟨⟨a0, a1, a2, a3, L⟩, B, d, by rw [b0, b1, b2, b3, b4], In64.of_wf w1, hI⟩

theorem open_ops {n : Nat} {A : Option Addr} {len cap : Nat} {x : DataW H × List MemPlace} (h : DataW.trod enc Try.prog W base (fun _ => true) held n 22 [.slice A len cap] = some x) (hlt : ∀ p ∈ x.2, p.block < W.heap.size) :
    len ≤ 9223372036854775807 ∧ ∃ ops : Nat → OpV, OpsAt W A len ops := by
  rcases open_slice Try.underlying22 h with ⟨hcs, _⟩ | ⟨a, len', cap', m, n', D, Pl, hcs, _, hl, hm, hmm, hx, hi⟩
  · simp at hcs
    obtain ⟨rfl, rfl, rfl⟩ := hcs
    exact ⟨by omega, fun _ => ⟨0, 0, 0, 0, []⟩, fun i hi => absurd hi (by omega)⟩
  · simp at hcs
    obtain ⟨rfl, rfl, rfl⟩ := hcs
    simp at hmm
    subst hmm
    refine ⟨by unfold maxLen at hm; omega, ?_⟩
    have hone : ∀ i, ∃ o : OpV, i < len → ∃ B d, a.spot = none ∧ a.block < W.heap.size ∧ OpAt W a.block (a.off + i * 5) o B d := by
      intro i
      by_cases hil : i < len
      · obtain ⟨cs', hc, ht⟩ := hi i (by omega)
        rw [Try.cells33] at hc
        obtain ⟨_, _, hat⟩ := World.cells?_some hc
        obtain ⟨o, B, d, rfl, hw, hI⟩ := open_op ht
        refine ⟨o, fun _ => ⟨B, d, ?_⟩⟩
        have hadd : ∀ j, j < 5 → ((a.add (i * 5)).add j).block = a.block ∧ ((a.add (i * 5)).add j).off = a.off + i * 5 + j := by
          intro j _
          unfold Addr.add
          by_cases e : i * 5 = 0 <;> by_cases e' : j = 0 <;> simp [e, e', Nat.add_assoc]
        have hspot : ∀ j u, j < 5 → W.cell? ((a.add (i * 5)).add j) = some u → W.cell? ⟨a.block, a.off + i * 5 + j, none⟩ = some u := by
          intro j u hj hu
          have h1 := World.cell?_spot hu
          obtain ⟨h2, h3⟩ := hadd j hj
          rw [← hu]
          congr 1
          rw [← h2, ← h3, ← h1]
        have g := fun j u hj (hu : [Value.int .i64 o.ask, .int .i64 o.a, .int .i64 o.b, .int .i64 o.c, .slice B o.l.length d][j]? = some u) => hspot j u hj ((hat j hj).trans hu)
        have g0 := g 0 _ (by omega) rfl
        have hsp : a.spot = none := by
          have h0 := hat 0 (by omega)
          have h1 := World.cell?_spot (h0.trans (show _ = some (Value.int .i64 o.ask) from rfl))
          unfold Addr.add at h1
          by_cases e : i * 5 = 0
          · simpa [e] using h1
          · have hi0 := hi 0 (by omega)
            obtain ⟨cs0, hc0, ht0⟩ := hi0
            rw [Try.cells33] at hc0
            obtain ⟨_, hl0, hat0⟩ := World.cells?_some hc0
            obtain ⟨o0, _, _, rfl, _⟩ := open_op ht0
            have h2 := World.cell?_spot ((hat0 0 (by omega)).trans (show _ = some (Value.int .i64 o0.ask) from rfl))
            simpa [Addr.add] using h2
        exact ⟨hsp, (by simpa using World.block_lt_of_cell? W ⟨a.block, a.off + i * 5 + 0, none⟩ g0), g0, g 1 _ (by omega) rfl, g 2 _ (by omega) rfl, g 3 _ (by omega) rfl, g 4 _ (by omega) rfl, hw, hI⟩
      · exact ⟨⟨0, 0, 0, 0, []⟩, fun h => absurd h hil⟩
    refine ⟨fun i => (hone i).choose, fun i hil => ?_⟩
    obtain ⟨B, d, h1, h2, h3⟩ := (hone i).choose_spec hil
    exact ⟨a.block, a.off, B, d, by rw [← h1], h2, h3⟩
end

/-- Are they few? -/
def fewB (n : Nat) (ops : Nat → OpV) : Bool := decide ((∀ i < n, (ops i).l.length ≤ 20) ∧ n ≤ 60)
theorem few_yes {n : Nat} {ops : Nat → OpV} : fewB n ops = true ↔ (∀ i < n, (ops i).l.length ≤ 20) ∧ n ≤ 60 := by simp [fewB]

set_option maxHeartbeats 1000000 in
theorem few_any {w : World} {A : Option Addr} {n c : Nat} {ops : Nat → OpV} {r : Bool} (hn : n ≤ 9223372036854775807) (h : OpsAt w A n ops) (hr : fewB n ops = r) : Calls Try.prog 10 #[.slice A n c] w fun e w' => e = .returned (.bool r) ∧ w = w' := by
  have H : Hid (OpsAt w A n ops) := h
  have HR := hide hr
  clear h hr
  go_enter Try.func10, Try.ntmps10
  go_wp2_with fail
  go_loopg [3] n (fun g i wr => ∃ j : Nat, j + g = n ∧ i = .int .i64 j ∧ w = wr ∧ ∀ k < j, (ops k).l.length ≤ 20)
  case atStart => exact ⟨0, by omega, rfl, rfl, fun k hk => absurd hk (by omega)⟩
  case round =>
    obtain ⟨j, hjg, rfl, rfl, hall⟩ := hrel
    have HA : Hid (∀ k < j, (ops k).l.length ≤ 20) := hall
    clear hall
    by_cases hj : j < n
    · obtain ⟨b, off, B, d, rfl, hlt, ho⟩ := H.out j hj
      have c4 := ho.c4
      generalize hx : (ops j).l.length = x at c4
      have HX := hide hx
      clear hx ho
      have g1 : decide (n ≤ j) = false := by simp; omega
      have g2 : decide (j < n) = true := by simp; omega
      by_cases h20 : x ≤ 20
      · have g3 : decide ((20 : Int) < (x : Int)) = false := by simp; omega
        have H20 := hide h20
        clear h20
        go_wp2_with fail
        go_roundg (n - (j + 1))
        case measure => omega
        case rel =>
          refine ⟨j + 1, by omega, by go_num, rfl, fun k hk => ?_⟩
          by_cases e : k = j
          · rw [e, unhide HX]; exact unhide H20
          · exact HA.out k (by omega)
      · have g3 : decide ((20 : Int) < (x : Int)) = true := by simp; omega
        have e : r = false := by
          rw [← unhide HR]
          cases hb : fewB n ops with
          | false => rfl
          | true =>
            have := (few_yes.1 hb).1 j hj
            have := unhide HX
            omega
        have HE := hide e
        clear e h20
        go_wp2_with fail
        go_ret
        rw [unhide HE]
        exact ⟨rfl, rfl⟩
    · have g2 : decide (j < n) = false := by simp; omega
      have e : r = decide (n ≤ 60) := by
        rw [← unhide HR]
        unfold fewB
        congr 1
        rw [eq_iff_iff]
        exact ⟨fun h => h.2, fun h => ⟨fun k hk => HA.out k (by omega), h⟩⟩
      have HE := hide e
      clear e
      go_wp2_with fail
      go_ret
      rw [unhide HE]
      refine ⟨?_, rfl⟩
      show Ending.returned (.bool _) = _
      congr 2
      simp
      omega
end Go.Proofs.Ytdommbaljchofaa
