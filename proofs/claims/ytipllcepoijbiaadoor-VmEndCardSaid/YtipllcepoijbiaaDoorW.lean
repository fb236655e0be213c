/-
  Words on worlds: which blocks a call may have turned ('Only'), and what is kept. No program in sight.
-/
import Derived.WalkKit
import Derived.Deep.OwnRows
import Derived.Deep.Draws
import Derived.Below
import Derived.Maps.RangeWalk
import Derived.Maps.OwnSet
import Derived.Maps.OwnOps
import Derived.Laws.MakeOwn
import Derived.Laws.Entries
namespace Go.Proofs.YtipllcepoijbiaaDoor
open Go.RowKit

/-- w' is w but for the blocks of s, and new blocks. -/
structure Only (s : List Nat) (w w' : World) : Prop where
  os : w'.os = w.os
  tape : w'.tape = w.tape
  output : w'.output = w.output
  size : w.heap.size ≤ w'.heap.size
  block : ∀ k, k < w.heap.size → k ∉ s → w'.heap[k]? = w.heap[k]?
namespace Only
variable {s t : List Nat} {a b c w w' : World}
theorem refl (s : List Nat) (w : World) : Only s w w := ⟨rfl, rfl, rfl, Nat.le_refl _, fun _ _ _ => rfl⟩
theorem trans (h : Only s a b) (k : Only s b c) : Only s a c :=
  ⟨k.os.trans h.os, k.tape.trans h.tape, k.output.trans h.output, Nat.le_trans h.size k.size, fun i hi hn => (k.block i (Nat.lt_of_lt_of_le hi h.size) hn).trans (h.block i hi hn)⟩
theorem mono (h : Only s a b) (hs : ∀ i ∈ s, i ∈ t) : Only t a b := ⟨h.os, h.tape, h.output, h.size, fun i hi hn => h.block i hi (fun e => hn (hs i e))⟩
theorem drew (h : Only s a w) : Only s a w.drew := ⟨h.os, h.tape, h.output, h.size, h.block⟩
theorem drewN (h : Only s a w) (n : Nat) : Only s a (w.drewN n) := ⟨h.os, h.tape, h.output, h.size, h.block⟩
theorem alloc (h : Only s a w) (o : Obj) : Only s a (w.alloc o) :=
  ⟨h.os, h.tape, h.output, Nat.le_trans h.size (by simp), fun i hi hn => (Below.heap_alloc w o i (Nat.lt_of_lt_of_le hi h.size)).trans (h.block i hi hn)⟩
theorem setCell (h : Only s a w) {p : Addr} (hp : p.block ∈ s ∨ a.heap.size ≤ p.block) (u : Value) : Only s a (w.setCell p u) :=
  ⟨h.os, h.tape, h.output, by simpa using h.size, fun i hi hn => (Below.heap_setCell w p u i (by
    rintro rfl
    rcases hp with hp | hp
    · exact hn hp
    · omega)).trans (h.block i hi hn)⟩
theorem setIn (h : Only s a w) {b o : Nat} (hp : b ∈ s) (u : Value) : Only s a (w.setCell ⟨b, o, none⟩ u) := h.setCell (.inl hp) u
theorem setNew (h : Only s a w) {b o : Nat} (hp : a.heap.size ≤ b) (u : Value) : Only s a (w.setCell ⟨b, o, none⟩ u) := h.setCell (.inr hp) u
theorem of_below (h : Below a.heap.size a b) (s : List Nat) : Only s a b := ⟨h.os, h.tape, h.output, h.size, fun i hi _ => h.block i hi⟩
theorem of_grown {row : Option Nat} (h : a.grownBy b row) (hr : ∀ k, row = some k → k ∈ s ∨ a.heap.size ≤ k) : Only s a b :=
  ⟨h.os, h.tape, h.output, h.size, fun i hi hn => h.block i hi (fun e => by
    rcases hr i e.symm with h1 | h1
    · exact hn h1
    · omega)⟩
theorem to_below {B : Nat} (h : Below B a b) (k : Only s b c) (hs : ∀ i ∈ s, B ≤ i) (hB : B ≤ b.heap.size) : Below B a c :=
  ⟨k.os.trans h.os, k.tape.trans h.tape, k.output.trans h.output, Nat.le_trans h.size k.size, fun i hi => (k.block i (Nat.lt_of_lt_of_le hi hB) (fun e => by have := hs i e; omega)).trans (h.block i hi)⟩
theorem nil_below (k : Only [] a b) : Below a.heap.size a b := ⟨k.os, k.tape, k.output, k.size, fun i hi => k.block i hi (by simp)⟩
theorem to_grown {g : Nat} (k : Only [g] a b) : a.grownBy b (some g) := ⟨k.os, k.tape, k.output, k.size, fun i hi hn => k.block i hi (by simpa using hn)⟩
theorem to_grown0 (k : Only [] a b) (row : Option Nat) : a.grownBy b row := ⟨k.os, k.tape, k.output, k.size, fun i hi _ => k.block i hi (by simp)⟩
theorem row {b t n : Nat} {f : Nat → Value} (h : Only s w w') (r : w.rowIs b t n f) (hb : b ∉ s) : w'.rowIs b t n f := r.of_block (h.block b r.lt hb)
theorem owns {base : Nat} {e : TypeId} {size : Nat} {v : Value} {n : Nat} {xs : List Value} (h : Only s w w') (r : w.ownsRow base e size v n xs) (hb : ∀ k, v.ownBlock = some k → k ∉ s) : w'.ownsRow base e size v n xs := by
  refine ⟨r.1, ?_⟩
  rcases r.2 with hn | ⟨g, cap, cur, rfl, hb', hgg, rest⟩
  · exact .inl hn
  · refine .inr ⟨g, cap, cur, rfl, hb', ?_, rest⟩
    rw [h.block g (Array.getElem?_eq_some_iff.1 hgg).1 (hb g rfl)]
    exact hgg
theorem cell (h : Only s w w') {p : Addr} (hlt : p.block < w.heap.size) (hn : p.block ∉ s) : w'.cell? p = w.cell? p := World.cell?_of_block (h.block _ hlt hn)
theorem frozen (h : Only s w w') {p : Addr} (hlt : p.block < w.heap.size) (hn : p.block ∉ s) : w'.frozen? p = w.frozen? p := World.frozen?_of_block (h.block _ hlt hn)
end Only

/-- A row of 'cap' cells, of which the first n are told. -/
def rowTo (w : World) (b t cap n : Nat) (f : Nat → Value) : Prop := ∃ g, w.rowIs b t cap g ∧ ∀ j, j < n → g j = f j
namespace rowTo
variable {w w' : World} {b t cap n : Nat} {f : Nat → Value}
theorem lt (h : rowTo w b t cap n f) : b < w.heap.size := h.choose_spec.1.lt
theorem cell (h : rowTo w b t cap n f) {j : Nat} (hj : j < n) (hn : n ≤ cap) : w.cell? ⟨b, j, none⟩ = some (f j) := by
  obtain ⟨g, hg, he⟩ := h
  rw [hg.cell (by omega), he j hj]
theorem frozen (h : rowTo w b t cap n f) (o : Nat) : w.frozen? ⟨b, o, none⟩ = false := h.choose_spec.1.frozen o
theorem congr {f' : Nat → Value} (h : rowTo w b t cap n f) (e : ∀ j, j < n → f j = f' j) : rowTo w b t cap n f' := by
  obtain ⟨g, hg, he⟩ := h
  exact ⟨g, hg, fun j hj => (he j hj).trans (e j hj)⟩
theorem set (h : rowTo w b t cap n f) (i : Nat) (v : Value) : rowTo (w.setCell ⟨b, i, none⟩ v) b t cap n (fun j => if j = i then v else f j) := by
  obtain ⟨g, hg, he⟩ := h
  refine ⟨_, hg.set i v, fun j hj => ?_⟩
  show (if j = i then v else g j) = if j = i then v else f j
  rw [he j hj]
theorem setOther (h : rowTo w b t cap n f) {a : Addr} (ha : b ≠ a.block) (v : Value) : rowTo (w.setCell a v) b t cap n f := by
  obtain ⟨g, hg, he⟩ := h
  exact ⟨g, hg.setOther ha v, he⟩
theorem alloc (h : rowTo w b t cap n f) (o : Obj) : rowTo (w.alloc o) b t cap n f := by
  obtain ⟨g, hg, he⟩ := h
  exact ⟨g, hg.alloc o, he⟩
theorem only {s : List Nat} (h : rowTo w b t cap n f) (k : Only s w w') (hb : b ∉ s) : rowTo w' b t cap n f := by
  obtain ⟨g, hg, he⟩ := h
  exact ⟨g, k.row hg hb, he⟩
end rowTo

/-- Two rows whose element types differ lie in two blocks. -/
theorem row_ne {w : World} {b b' t t' n n' : Nat} {f f' : Nat → Value} (h : w.rowIs b t n f) (h' : w.rowIs b' t' n' f') (hne : t ≠ t') : b ≠ b' := by
  rintro rfl
  obtain ⟨c, h1, _, _⟩ := h
  obtain ⟨c', h2, _, _⟩ := h'
  rw [h1] at h2
  injection h2 with h2
  injection h2 with _ h2
  exact hne h2

theorem row_drewN {w : World} {b t n : Nat} {f : Nat → Value} (h : w.rowIs b t n f) (k : Nat) : (w.drewN k).rowIs b t n f := h
theorem owns_drewN {w : World} {base : Nat} {e : TypeId} {size : Nat} {v : Value} {n : Nat} {xs : List Value} (h : w.ownsRow base e size v n xs) (k : Nat) : (w.drewN k).ownsRow base e size v n xs := h
/-- A row of a slice's own lies not in a block of another element type. -/
theorem owns_row_ne {w : World} {base : Nat} {e : TypeId} {size : Nat} {v : Value} {n : Nat} {xs : List Value} {b t m : Nat} {f : Nat → Value} (h : w.ownsRow base e size v n xs) (r : w.rowIs b t m f) (hne : e ≠ t) : ∀ k, v.ownBlock = some k → k ≠ b := by
  intro k hk
  rcases h.2 with ⟨rfl, _⟩ | ⟨g, cap, cur, rfl, _, hg, _⟩
  · simp [Value.ownBlock] at hk
  · simp [Value.ownBlock] at hk
    subst hk
    rintro rfl
    obtain ⟨c, h1, _, _⟩ := r
    rw [h1] at hg
    injection hg with hg
    injection hg with _ hg
    exact hne hg.symm

/-- 'make([]T, n)', T of several cells, in whatever world. -/
theorem run_make_many {P : Program} (t e : TypeId) (i : TypeInfo) (z : Value) (ht : P.underlying t = some (.slice e)) (hi : P.info? e = some i) (hz : i.zero = some z)
    (n : Nat) (hbytes : i.bytes * n ≤ 281474976710656) (h63 : n ≤ 9223372036854775807) (w : World) :
    (Instr.makeSlice t (.int .i64 (n : Int)) (.int .i64 (n : Int))).run P w = .ok (.slice (some ⟨w.heap.size, 0, none⟩) n n) (w.alloc (.cells (madeCells z.cells (n * i.size)) e)) := by
  simpa using run_make (P := P) w t e i z ht hi hz .i64 .i64 n n (Int.natCast_nonneg n) (Int.le_refl _) (by have h := Int.ofNat_le.2 hbytes; rwa [Int.natCast_mul] at h) (by omega)
/-- What it lays, where the zero value is so many zeros. -/
theorem row_made_zeros (w : World) (k n t : Nat) (hk : 0 < k) : (w.alloc (.cells (madeCells (Array.replicate k (.int .i64 0)) (n * k)) t)).rowIs w.heap.size t (n * k) (fun _ => .int .i64 0) := by
  refine ⟨_, (by exact heap_alloc_new w _), size_madeCells _ _, fun i hi => ?_⟩
  have hm : i % k < k := Nat.mod_lt _ hk
  simp [madeCells, hi, hm]
/-- An owned row is a row of which the first cells are told. -/
theorem owns_rowTo {w : World} {base : Nat} {e : TypeId} {g n cap : Nat} {f : Nat → Value} (h : w.ownsRow base e 1 (.slice (some ⟨g, 0, none⟩) n cap) n ((List.range n).map f)) : rowTo w g e cap n f ∧ n ≤ cap ∧ base ≤ g ∧ g < w.heap.size := by
  rcases h.2 with ⟨h0, _⟩ | ⟨g', cap', cur, hv, hb, hg, hn, _, hs, ht⟩
  · cases h0
  · injection hv with ha _ hc
    injection ha with ha
    injection ha with ha
    subst ha hc
    refine ⟨⟨fun j => (cur.toList.getD j undef), ⟨cur, hg, by simpa using hs, fun i hi => ?_⟩, fun j hj => ?_⟩, hn, hb, (Array.getElem?_eq_some_iff.1 hg).1⟩
    · have : i < cur.size := by omega
      simp [List.getD, this]
    · have h1 : (cur.toList.take (n * 1))[j]? = ((List.range n).map f)[j]? := by rw [ht]
      rw [List.getElem?_take, if_pos (by omega)] at h1
      simp [hj] at h1
      simp [List.getD, h1]
/-- The same, of a row of which some cells are told. -/
theorem owns_rowTo_ne {w : World} {base : Nat} {e : TypeId} {size : Nat} {v : Value} {n : Nat} {xs : List Value} {b t cap m : Nat} {f : Nat → Value} (h : w.ownsRow base e size v n xs) (r : rowTo w b t cap m f) (hne : e ≠ t) : ∀ k, v.ownBlock = some k → k ≠ b := by
  obtain ⟨g, hg, _⟩ := r
  exact owns_row_ne h hg hne
/-- How an owned slice looks. -/
theorem owns_form {w : World} {base : Nat} {e : TypeId} {size : Nat} {v : Value} {n : Nat} {xs : List Value} (h : w.ownsRow base e size v n xs) : ∃ A c, v = .slice A n c := by
  rcases h.2 with ⟨rfl, rfl⟩ | ⟨g, cap, cur, rfl, _⟩
  · exact ⟨_, _, rfl⟩
  · exact ⟨_, _, rfl⟩
end Go.Proofs.YtipllcepoijbiaaDoor
namespace Go.Proofs.YtipllcepoijbiaaDoor
open Go.RowKit
theorem hide {p : Prop} (h : p) : Hid p := h
theorem unhide {p : Prop} (h : Hid p) : p := h
theorem some_of_lt {α : Type} {l : List α} {i : Nat} (h : i < l.length) : ∃ x, l[i]? = some x := ⟨l[i], List.getElem?_eq_getElem h⟩
/-- A map in a block of its own is none of a row's. -/
theorem map_row_ne {H : Type} {P : Program} {k : TypeId} {R : Value → Option (DataW H × List MemPlace)} {w : World} {mb n : Nat} {D : DataW H} {b t c : Nat} {f : Nat → Value} (h : w.ownsMap P k R mb n D) (r : w.rowIs b t c f) : mb ≠ b := by
  rintro rfl
  obtain ⟨es, clock, h1, _⟩ := h
  obtain ⟨c, h2, _⟩ := r
  rw [h1] at h2
  cases h2
theorem Only.map {H : Type} {P : Program} {k : TypeId} {R : Value → Option (DataW H × List MemPlace)} {s : List Nat} {w w' : World} {mb n : Nat} {D : DataW H} (h : Only s w w') (r : w.ownsMap P k R mb n D) (hb : mb ∉ s) : w'.ownsMap P k R mb n D := by
  have hlt := r.lt
  obtain ⟨es, clock, h1, h2⟩ := r
  exact ⟨es, clock, (h.block mb hlt hb).trans h1, h2⟩
end Go.Proofs.YtipllcepoijbiaaDoor
