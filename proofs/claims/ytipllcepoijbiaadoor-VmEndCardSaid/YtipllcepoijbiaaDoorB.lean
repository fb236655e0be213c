/-
  An op's shape, off the laid table; an instruction's numbers.
-/
import Derived.Test.YtipllcepoijbiaaDoorA
namespace Go.Proofs.YtipllcepoijbiaaDoor
open Go.RowKit Go.Deep
set_option linter.unusedVariables false

/-- The kinds of an op's numbers. -/
def kindsL (op : Nat) : List UInt8 :=
  if op = 1 then [99, 110] else if op = 2 then [99, 99] else if op ≤ 7 ∧ 3 ≤ op then [99, 99, 99] else if op = 8 then [112] else if op = 9 then [99, 112] else if 10 ≤ op ∧ op ≤ 13 then [99] else if op = 14 then [99, 99, 99, 107] else []
def kindsS (op : Nat) : ByteArray := ⟨(kindsL op).toArray⟩
/-- The table lies where it is laid. -/
def TabAt (w : World) : Prop := 0 < w.heap.size ∧ ∀ i : Nat, i < 16 → ∃ wd : ByteArray, w.cell? ⟨0, i * 2, none⟩ = some (.string wd) ∧ w.cell? ⟨0, i * 2 + 1, none⟩ = some (.string (kindsS i))
theorem TabAt.only {w w' : World} {s : List Nat} (h : TabAt w) (k : Only s w w') (hs : 0 ∉ s) : TabAt w' := by
  refine ⟨Nat.lt_of_lt_of_le h.1 k.size, fun i hi => ?_⟩
  obtain ⟨wd, h1, h2⟩ := h.2 i hi
  exact ⟨wd, (k.cell (p := ⟨0, i * 2, none⟩) h.1 hs).trans h1, (k.cell (p := ⟨0, i * 2 + 1, none⟩) h.1 hs).trans h2⟩

theorem kindsL_len (op : Nat) : (kindsL op).length ≤ 4 := by
  unfold kindsL
  repeat' split
  all_goals simp
set_option maxHeartbeats 1000000 in
theorem of_bad {w : World} {op : Int} (h : op < 1 ∨ 15 < op) : Calls Tryd.prog 15 #[.int .i64 op] w fun e w' => e = .returned (.tuple #[.agg #[.string ⟨#[]⟩, .string ⟨#[]⟩], .bool false]) ∧ Only [] w w' := by
  by_cases h1 : op < 1
  · clear h
    have d1 : decide (op < 1) = true := by simpa using h1
    go_enter Tryd.func15, Tryd.ntmps15
    go_wp2_with fail
    refine bodyPost_ret (v := .tuple #[.agg #[.string ⟨#[]⟩, .string ⟨#[]⟩], .bool false]) (by simp [results, Tryd.results15, go_sem]) rfl ⟨rfl, (Only.refl _ _).alloc _⟩
  · have h2 : 15 < op := by omega
    clear h
    have d1 : decide (op < 1) = false := by simpa using h1
    have d2 : decide (15 < op) = true := by simpa using h2
    go_enter Tryd.func15, Tryd.ntmps15
    go_wp2_with fail
    refine bodyPost_ret (v := .tuple #[.agg #[.string ⟨#[]⟩, .string ⟨#[]⟩], .bool false]) (by simp [results, Tryd.results15, go_sem]) rfl ⟨rfl, (Only.refl _ _).alloc _⟩
set_option maxHeartbeats 1000000 in
theorem of_ok {w : World} {op : Nat} (hT : TabAt w) (h1 : 1 ≤ op) (h2 : op ≤ 15) : Calls Tryd.prog 15 #[.int .i64 op] w fun e w' => ∃ wd, e = .returned (.tuple #[.agg #[.string wd, .string (kindsS op)], .bool true]) ∧ Only [] w w' := by
  obtain ⟨h0, hc⟩ := hT
  obtain ⟨wd, c0, c1⟩ := hc op (by omega)
  clear hc
  generalize kindsS op = ks at *
  go_enter Tryd.func15, Tryd.ntmps15
  go_wp2_with fail
  refine bodyPost_ret (v := .tuple #[.agg #[.string wd, .string ks], .bool true]) (by simp [results, Tryd.results15, go_sem]) rfl ⟨_, rfl, (Only.refl _ _).alloc _⟩
set_option maxHeartbeats 1000000 in
theorem numbers_any {w : World} {o a b c d : Int} : Calls Tryd.prog 16 #[.agg #[.int .i64 o, .int .i64 a, .int .i64 b, .int .i64 c, .int .i64 d]] w fun e w' => e = .returned (.agg #[.int .i64 a, .int .i64 b, .int .i64 c, .int .i64 d]) ∧ Only [] w w' := by
  go_enter Tryd.func16, Tryd.ntmps16
  go_wp2_with fail
  refine bodyPost_ret (v := .agg #[.int .i64 a, .int .i64 b, .int .i64 c, .int .i64 d]) (by simp [results, Tryd.results16, go_sem]) rfl ⟨rfl, ?_⟩
  exact ((Only.refl _ _).alloc _).alloc _
end Go.Proofs.YtipllcepoijbiaaDoor
