/-
  A machine's state; a step where there is no instruction.
-/
import Derived.Test.YtipllcepoijbiaaDoorT
namespace Go.Proofs.YtipllcepoijbiaaDoor
open Go.RowKit Go.Deep
set_option linter.unusedVariables false

/-- A program lies at A. -/
def PAt (w : World) (A : Option Addr) (p : List I) : Prop :=
  ∀ (j : Nat) (x : I), p[j]? = some x → ∃ b off, A = some ⟨b, off, none⟩ ∧ b < w.heap.size ∧ w.cell? ⟨b, off + j * 5, none⟩ = some (.int .i64 x.o) ∧ w.cell? ⟨b, off + j * 5 + 1, none⟩ = some (.int .i64 x.a) ∧ w.cell? ⟨b, off + j * 5 + 2, none⟩ = some (.int .i64 x.b) ∧ w.cell? ⟨b, off + j * 5 + 3, none⟩ = some (.int .i64 x.c) ∧ w.cell? ⟨b, off + j * 5 + 4, none⟩ = some (.int .i64 x.d)
/-- The program's block is none of the machine's: all that is older than B is as it was. -/
theorem PAt.keep {w w' : World} {A : Option Addr} {p : List I} (h : PAt w A p) (hs : w.heap.size ≤ w'.heap.size) (hb : ∀ a, A = some a → a.block < w.heap.size → w'.heap[a.block]? = w.heap[a.block]?) : PAt w' A p := by
  intro j x hj
  obtain ⟨b, off, hA, hlt, c0, c1, c2, c3, c4⟩ := h j x hj
  have hk : w'.heap[b]? = w.heap[b]? := hb _ hA hlt
  exact ⟨b, off, hA, Nat.lt_of_lt_of_le hlt hs, (World.cell?_of_block hk).trans c0, (World.cell?_of_block hk).trans c1, (World.cell?_of_block hk).trans c2, (World.cell?_of_block hk).trans c3, (World.cell?_of_block hk).trans c4⟩
theorem PAt.only {w w' : World} {A : Option Addr} {p : List I} {s : List Nat} (h : PAt w A p) (k : Only s w w') (hs : ∀ a, A = some a → a.block ∉ s) : PAt w' A p :=
  h.keep k.size fun a ha hlt => k.block _ hlt (hs a ha)
theorem PAt.below {w w' : World} {A : Option Addr} {p : List I} {B : Nat} (h : PAt w A p) (k : Below B w w') (hs : ∀ a, A = some a → a.block < B) : PAt w' A p :=
  h.keep k.size fun a ha _ => k.block _ (hs a ha)
theorem TabAt.below {w w' : World} {B : Nat} (h : TabAt w) (k : Below B w w') (hB : 0 < B) : TabAt w' := by
  refine ⟨Nat.lt_of_lt_of_le h.1 k.size, fun i hi => ?_⟩
  obtain ⟨wd, h1, h2⟩ := h.2 i hi
  exact ⟨wd, (World.cell?_of_block (k.block 0 hB)).trans h1, (World.cell?_of_block (k.block 0 hB)).trans h2⟩

/-- What a handler sends. -/
structure Em where
  dst : Int
  delay : Int
  kind : Int
  data : Int
def Em.cells (x : Em) : List Value := [.int .i64 x.dst, .int .i64 x.delay, .int .i64 x.kind, .int .i64 x.data]
theorem em_len (l : List Em) : (l.flatMap Em.cells).length = l.length * 4 := by
  induction l with
  | nil => rfl
  | cons p l ih => rw [List.flatMap_cons, List.length_append, ih]; simp [Em.cells]; omega
theorem em_cell {l : List Em} {i f : Nat} {p : Em} (hi : l[i]? = some p) (hf : f < 4) : (l.flatMap Em.cells)[i * 4 + f]? = p.cells[f]? := by
  induction l generalizing i with
  | nil => simp at hi
  | cons q l ih =>
    rw [List.flatMap_cons]
    cases i with
    | zero =>
      simp only [List.getElem?_cons_zero, Option.some.injEq] at hi
      subst hi
      rw [List.getElem?_append_left (by simp [Em.cells]; omega)]
      simp
    | succ i =>
      simp only [List.getElem?_cons_succ] at hi
      rw [List.getElem?_append_right (by simp [Em.cells]; omega), ← ih hi]
      congr 1
      simp [Em.cells]
      omega
theorem em_one (p : Em) : ∀ u ∈ p.cells, u.oneCell' = true := by
  intro u hu
  simp only [Em.cells, List.mem_cons, List.not_mem_nil, or_false] at hu
  rcases hu with rfl | rfl | rfl | rfl <;> rfl

/-- A machine's state: its numbers, its place, what it sent. -/
structure S where
  cs : Nat → Int
  pl : Nat
  L : List Em
/-- What an instruction does (no jump, no stop). -/
def doV (x : I) (e : Nat → Int) (fan : Int) (s : S) : S :=
  if x.o = 14 then ⟨s.cs, s.pl + 1, if (s.L.length : Int) < fan then s.L ++ [⟨s.cs x.a.toNat, s.cs x.b.toNat, x.d, s.cs x.c.toNat⟩] else s.L⟩
  else ⟨fun j => if j = x.a.toNat then toldV x s.cs e else s.cs j, s.pl + 1, s.L⟩
/-- A machine in memory: its block and all that it owns are at mb and behind; the program, and the laid table, are older. -/
structure SAt (w : World) (mb : Nat) (e : Nat → Int) (A : Option Addr) (cap : Nat) (p : List I) (fan : Int) (s : S) (sv : Value) : Prop where
  m : MAt w mb e (.slice A p.length cap) fan s.cs (s.pl : Int) sv
  p : PAt w A p
  pb : ∀ a, A = some a → a.block < mb
  l : w.ownsRow (mb + 1) 38 4 sv s.L.length (s.L.flatMap Em.cells)
  t : TabAt w
  t0 : 0 < mb
section
variable {w w' : World} {mb : Nat} {e : Nat → Int} {A : Option Addr} {cap : Nat} {p : List I} {fan : Int} {s : S} {sv : Value}
theorem SAt.only0 (h : SAt w mb e A cap p fan s sv) (k : Only [] w w') : SAt w' mb e A cap p fan s sv :=
  ⟨h.m.only k (by simp), h.p.only k (fun _ _ => by simp), h.pb, k.owns h.l (by simp), h.t.only k (by simp), h.t0⟩
theorem SAt.lt (h : SAt w mb e A cap p fan s sv) : mb < w.heap.size := h.m.lt

set_option maxRecDepth 100000 in
set_option maxHeartbeats 1000000 in
theorem step_nil {w : World} : Calls Tryd.prog 7 #[.pointer none] w fun r w' => r = .returned (.bool false) ∧ Only [] w w' := by
  go_enter Tryd.func7, Tryd.ntmps7
  go_wp2_with fail
  go_quiet (fail)
  go_wp2_with fail
  go_ret
  exact ⟨rfl, (Only.refl _ _).drewN _⟩
set_option maxRecDepth 100000 in
set_option maxHeartbeats 1000000 in
theorem step_end {w : World} (h : SAt w mb e A cap p fan s sv) (hn : p.length ≤ 1000) (hp : p.length ≤ s.pl) : Calls Tryd.prog 7 #[.pointer (some ⟨mb, 0, none⟩)] w fun r w' => r = .returned (.bool false) ∧ Only [] w w' := by
  obtain ⟨cs, pl, L⟩ := s
  have hlt := h.lt
  have m7 := h.m.c7
  have m17 := h.m.c17
  simp only at m7 m17 hp
  have d1 : decide ((p.length : Int) ≤ (pl : Int)) = true := by simp; omega
  have d2 : decide (p.length ≤ pl) = true := by simp; omega
  generalize p.length = n at *
  clear h hn hp
  go_enter Tryd.func7, Tryd.ntmps7
  go_wp2_with fail
  go_quiet (fail)
  go_wp2_with fail
  go_ret
  exact ⟨rfl, (Only.refl _ _).drewN _⟩
end
end Go.Proofs.YtipllcepoijbiaaDoor
