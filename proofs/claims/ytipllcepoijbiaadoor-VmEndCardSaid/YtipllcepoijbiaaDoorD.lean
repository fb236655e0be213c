/-
  A machine in memory; the number that an instruction tells.
-/
import Derived.Test.YtipllcepoijbiaaDoorC
namespace Go.Proofs.YtipllcepoijbiaaDoor
open Go.RowKit Go.Deep
set_option linter.unusedVariables false

/-- A machine's cells: the event's seven, its program, its fan, its eight numbers, its place, what it sent. -/
def mrow (e : Nat → Int) (pv : Value) (fan : Int) (cs : Nat → Int) (pl : Int) (sv : Value) : Nat → Value := fun j =>
  if j < 7 then .int .i64 (e j) else if j = 7 then pv else if j = 8 then .int .i64 fan else if j < 17 then .int .i64 (cs (j - 9)) else if j = 17 then .int .i64 pl else sv
def MAt (w : World) (mb : Nat) (e : Nat → Int) (pv : Value) (fan : Int) (cs : Nat → Int) (pl : Int) (sv : Value) : Prop := w.rowIs mb 49 19 (mrow e pv fan cs pl sv)
namespace MAt
variable {w w' : World} {mb : Nat} {e : Nat → Int} {pv : Value} {fan : Int} {cs : Nat → Int} {pl : Int} {sv : Value}
theorem only {s : List Nat} (h : MAt w mb e pv fan cs pl sv) (k : Only s w w') (hs : mb ∉ s) : MAt w' mb e pv fan cs pl sv := k.row h hs
theorem ev (h : MAt w mb e pv fan cs pl sv) {j : Nat} (hj : j < 7) : w.cell? ⟨mb, j, none⟩ = some (.int .i64 (e j)) := by
  rw [World.rowIs.cell h (show j < 19 by omega)]
  simp [mrow, hj]
theorem c7 (h : MAt w mb e pv fan cs pl sv) : w.cell? ⟨mb, 7, none⟩ = some pv := World.rowIs.cell h (show 7 < 19 by omega)
theorem c8 (h : MAt w mb e pv fan cs pl sv) : w.cell? ⟨mb, 8, none⟩ = some (.int .i64 fan) := World.rowIs.cell h (show 8 < 19 by omega)
theorem c17 (h : MAt w mb e pv fan cs pl sv) : w.cell? ⟨mb, 17, none⟩ = some (.int .i64 pl) := World.rowIs.cell h (show 17 < 19 by omega)
theorem c18 (h : MAt w mb e pv fan cs pl sv) : w.cell? ⟨mb, 18, none⟩ = some sv := World.rowIs.cell h (show 18 < 19 by omega)
theorem cn (h : MAt w mb e pv fan cs pl sv) {j : Nat} (hj : j < 8) : w.cell? ⟨mb, 9 + j, none⟩ = some (.int .i64 (cs j)) := by
  rw [World.rowIs.cell h (show 9 + j < 19 by omega)]
  simp only [mrow]
  rw [if_neg (by omega), if_neg (by omega), if_neg (by omega), if_pos (by omega), show 9 + j - 9 = j by omega]
theorem lt (h : MAt w mb e pv fan cs pl sv) : mb < w.heap.size := World.rowIs.lt h
theorem fz (h : MAt w mb e pv fan cs pl sv) (j : Nat) : w.frozen? ⟨mb, j, none⟩ = false := World.rowIs.frozen h j
end MAt

/-- The number that an instruction tells a cell. -/
def toldV (x : I) (cs : Nat → Int) (e : Nat → Int) : Int :=
  if x.o = 1 then x.b else if x.o = 2 then cs x.b.toNat else if x.o = 3 then wrap64 (cs x.b.toNat + wrap64 (1 * cs x.c.toNat)) else if x.o = 4 then wrap64 (cs x.b.toNat + wrap64 (-1 * cs x.c.toNat))
  else if x.o = 5 then wrap64 (cs x.b.toNat * cs x.c.toNat) else if x.o = 6 then leftV (cs x.b.toNat) (cs x.c.toNat) else if x.o = 7 then truthV (decide (cs x.b.toNat < cs x.c.toNat))
  else if x.o = 10 then e 0 else if x.o = 11 then e 5 else if x.o = 12 then e 6 else e 4

set_option maxHeartbeats 2000000 in
theorem told1 {w : World} {mb : Nat} {e : Nat → Int} {pv : Value} {fan : Int} {cs : Nat → Int} {pl : Int} {sv : Value} (h : MAt w mb e pv fan cs pl sv) {a d : Int} {b : Int} {c : Int} :
    Calls Tryd.prog 13 #[.pointer (some ⟨mb, 0, none⟩), .agg #[.int .i64 1, .int .i64 a, .int .i64 b, .int .i64 c, .int .i64 d]] w fun r w' => r = .returned (.int .i64 (toldV ⟨1, a, b, c, d⟩ cs e)) ∧ Only [] w w' := by
  have hlt := h.lt
  obtain ⟨r, hr⟩ : ∃ r, toldV ⟨1, a, b, c, d⟩ cs e = r := ⟨_, rfl⟩
  have hr2 : r = b := hr.symm
  rw [hr]
  have HR := hide hr2
  clear h hr hr2
  go_enter Tryd.func13, Tryd.ntmps13
  go_wp2_with fail
  go_ret
  refine ⟨?_, ?_⟩
  · rw [unhide HR]
    first | rfl | simp [go_sem]
  · first | exact (Only.refl _ _).alloc _ | exact ((Only.refl _ _).alloc _).drewN _
set_option maxHeartbeats 2000000 in
theorem told2 {w : World} {mb : Nat} {e : Nat → Int} {pv : Value} {fan : Int} {cs : Nat → Int} {pl : Int} {sv : Value} (h : MAt w mb e pv fan cs pl sv) {a d : Int} {b : Nat} {c : Int} (hb : b < 8) :
    Calls Tryd.prog 13 #[.pointer (some ⟨mb, 0, none⟩), .agg #[.int .i64 2, .int .i64 a, .int .i64 b, .int .i64 c, .int .i64 d]] w fun r w' => r = .returned (.int .i64 (toldV ⟨2, a, b, c, d⟩ cs e)) ∧ Only [] w w' := by
  have hlt := h.lt
  have c0 := h.cn hb
  obtain ⟨r, hr⟩ : ∃ r, toldV ⟨2, a, b, c, d⟩ cs e = r := ⟨_, rfl⟩
  have hr2 : r = cs b := hr.symm
  rw [hr]
  generalize cs b = z at *
  have HR := hide hr2
  clear h hr hr2
  go_enter Tryd.func13, Tryd.ntmps13
  go_wp2_with fail
  go_quiet (fail)
  go_wp2_with fail
  go_ret
  refine ⟨?_, ?_⟩
  · rw [unhide HR]
    first | rfl | simp [go_sem]
  · first | exact (Only.refl _ _).alloc _ | exact ((Only.refl _ _).alloc _).drewN _
set_option maxHeartbeats 2000000 in
theorem told3 {w : World} {mb : Nat} {e : Nat → Int} {pv : Value} {fan : Int} {cs : Nat → Int} {pl : Int} {sv : Value} (h : MAt w mb e pv fan cs pl sv) {a d : Int} {b : Nat} {c : Nat} (hb : b < 8) (hc : c < 8) :
    Calls Tryd.prog 13 #[.pointer (some ⟨mb, 0, none⟩), .agg #[.int .i64 3, .int .i64 a, .int .i64 b, .int .i64 c, .int .i64 d]] w fun r w' => r = .returned (.int .i64 (toldV ⟨3, a, b, c, d⟩ cs e)) ∧ Only [] w w' := by
  have hlt := h.lt
  have c0 := h.cn hb
  have c1 := h.cn hc
  obtain ⟨r, hr⟩ : ∃ r, toldV ⟨3, a, b, c, d⟩ cs e = r := ⟨_, rfl⟩
  have hr2 : r = wrap64 ((cs b) + wrap64 (1 * (cs c))) := hr.symm
  rw [hr]
  obtain ⟨y, hy⟩ : ∃ y, cs b = y := ⟨_, rfl⟩
  obtain ⟨z, hz⟩ : ∃ z, cs c = z := ⟨_, rfl⟩
  rw [hy] at c0 hr2
  rw [hz] at c1 hr2
  clear hy hz
  have HR := hide hr2
  clear h hr hr2
  go_enter Tryd.func13, Tryd.ntmps13
  go_wp2_with fail
  go_quiet (fail)
  go_wp2_with fail
  go_ret
  refine ⟨?_, ?_⟩
  · rw [unhide HR]
    first | rfl | simp [go_sem]
  · first | exact (Only.refl _ _).alloc _ | exact ((Only.refl _ _).alloc _).drewN _
set_option maxHeartbeats 2000000 in
theorem told4 {w : World} {mb : Nat} {e : Nat → Int} {pv : Value} {fan : Int} {cs : Nat → Int} {pl : Int} {sv : Value} (h : MAt w mb e pv fan cs pl sv) {a d : Int} {b : Nat} {c : Nat} (hb : b < 8) (hc : c < 8) :
    Calls Tryd.prog 13 #[.pointer (some ⟨mb, 0, none⟩), .agg #[.int .i64 4, .int .i64 a, .int .i64 b, .int .i64 c, .int .i64 d]] w fun r w' => r = .returned (.int .i64 (toldV ⟨4, a, b, c, d⟩ cs e)) ∧ Only [] w w' := by
  have hlt := h.lt
  have c0 := h.cn hb
  have c1 := h.cn hc
  obtain ⟨r, hr⟩ : ∃ r, toldV ⟨4, a, b, c, d⟩ cs e = r := ⟨_, rfl⟩
  have hr2 : r = wrap64 ((cs b) + wrap64 (-1 * (cs c))) := hr.symm
  rw [hr]
  obtain ⟨y, hy⟩ : ∃ y, cs b = y := ⟨_, rfl⟩
  obtain ⟨z, hz⟩ : ∃ z, cs c = z := ⟨_, rfl⟩
  rw [hy] at c0 hr2
  rw [hz] at c1 hr2
  clear hy hz
  have HR := hide hr2
  clear h hr hr2
  go_enter Tryd.func13, Tryd.ntmps13
  go_wp2_with fail
  go_quiet (fail)
  go_wp2_with fail
  go_ret
  refine ⟨?_, ?_⟩
  · rw [unhide HR]
    first | rfl | simp [go_sem]
  · first | exact (Only.refl _ _).alloc _ | exact ((Only.refl _ _).alloc _).drewN _
set_option maxHeartbeats 2000000 in
theorem told5 {w : World} {mb : Nat} {e : Nat → Int} {pv : Value} {fan : Int} {cs : Nat → Int} {pl : Int} {sv : Value} (h : MAt w mb e pv fan cs pl sv) {a d : Int} {b : Nat} {c : Nat} (hb : b < 8) (hc : c < 8) :
    Calls Tryd.prog 13 #[.pointer (some ⟨mb, 0, none⟩), .agg #[.int .i64 5, .int .i64 a, .int .i64 b, .int .i64 c, .int .i64 d]] w fun r w' => r = .returned (.int .i64 (toldV ⟨5, a, b, c, d⟩ cs e)) ∧ Only [] w w' := by
  have hlt := h.lt
  have c0 := h.cn hb
  have c1 := h.cn hc
  obtain ⟨r, hr⟩ : ∃ r, toldV ⟨5, a, b, c, d⟩ cs e = r := ⟨_, rfl⟩
  have hr2 : r = wrap64 ((cs b) * (cs c)) := hr.symm
  rw [hr]
  obtain ⟨y, hy⟩ : ∃ y, cs b = y := ⟨_, rfl⟩
  obtain ⟨z, hz⟩ : ∃ z, cs c = z := ⟨_, rfl⟩
  rw [hy] at c0 hr2
  rw [hz] at c1 hr2
  clear hy hz
  have HR := hide hr2
  clear h hr hr2
  go_enter Tryd.func13, Tryd.ntmps13
  go_wp2_with fail
  go_quiet (fail)
  go_wp2_with fail
  go_ret
  refine ⟨?_, ?_⟩
  · rw [unhide HR]
    first | rfl | simp [go_sem]
  · first | exact (Only.refl _ _).alloc _ | exact ((Only.refl _ _).alloc _).drewN _
set_option maxHeartbeats 2000000 in
theorem told6 {w : World} {mb : Nat} {e : Nat → Int} {pv : Value} {fan : Int} {cs : Nat → Int} {pl : Int} {sv : Value} (h : MAt w mb e pv fan cs pl sv) {a d : Int} {b : Nat} {c : Nat} (hb : b < 8) (hc : c < 8) :
    Calls Tryd.prog 13 #[.pointer (some ⟨mb, 0, none⟩), .agg #[.int .i64 6, .int .i64 a, .int .i64 b, .int .i64 c, .int .i64 d]] w fun r w' => r = .returned (.int .i64 (toldV ⟨6, a, b, c, d⟩ cs e)) ∧ Only [] w w' := by
  have hlt := h.lt
  have c0 := h.cn hb
  have c1 := h.cn hc
  obtain ⟨r, hr⟩ : ∃ r, toldV ⟨6, a, b, c, d⟩ cs e = r := ⟨_, rfl⟩
  have hr2 : r = leftV (cs b) (cs c) := hr.symm
  rw [hr]
  obtain ⟨y, hy⟩ : ∃ y, cs b = y := ⟨_, rfl⟩
  obtain ⟨z, hz⟩ : ∃ z, cs c = z := ⟨_, rfl⟩
  rw [hy] at c0 hr2
  rw [hz] at c1 hr2
  clear hy hz
  have HR := hide hr2
  clear h hr hr2
  have H18 : Hid (∀ q, Calls Tryd.prog 18 #[.int .i64 y, .int .i64 z] ((w.alloc (.cells #[.int .i64 6, .int .i64 a, .int .i64 b, .int .i64 c, .int .i64 d] 33)).drewN q) fun e w' => e = .returned (.int .i64 (leftV y z)) ∧ ∃ n, w' = (w.alloc (.cells #[.int .i64 6, .int .i64 a, .int .i64 b, .int .i64 c, .int .i64 d] 33)).drewN n) := fun q => left_any.mono (by rintro _ w' ⟨rfl, rfl⟩; exact ⟨rfl, q, rfl⟩)
  go_enter Tryd.func13, Tryd.ntmps13
  go_wp2_with fail
  go_quiet ((go_at_call 18; (first | exact (unhide H18) _ | exact (unhide H18) 0)))
  go_wp2_with fail
  go_ret
  refine ⟨?_, ?_⟩
  · rw [unhide HR]
    first | rfl | simp [go_sem]
  · first | exact (Only.refl _ _).alloc _ | exact ((Only.refl _ _).alloc _).drewN _
set_option maxHeartbeats 2000000 in
theorem told7 {w : World} {mb : Nat} {e : Nat → Int} {pv : Value} {fan : Int} {cs : Nat → Int} {pl : Int} {sv : Value} (h : MAt w mb e pv fan cs pl sv) {a d : Int} {b : Nat} {c : Nat} (hb : b < 8) (hc : c < 8) :
    Calls Tryd.prog 13 #[.pointer (some ⟨mb, 0, none⟩), .agg #[.int .i64 7, .int .i64 a, .int .i64 b, .int .i64 c, .int .i64 d]] w fun r w' => r = .returned (.int .i64 (toldV ⟨7, a, b, c, d⟩ cs e)) ∧ Only [] w w' := by
  have hlt := h.lt
  have c0 := h.cn hb
  have c1 := h.cn hc
  obtain ⟨r, hr⟩ : ∃ r, toldV ⟨7, a, b, c, d⟩ cs e = r := ⟨_, rfl⟩
  have hr2 : r = truthV (decide (cs b < cs c)) := hr.symm
  rw [hr]
  obtain ⟨y, hy⟩ : ∃ y, cs b = y := ⟨_, rfl⟩
  obtain ⟨z, hz⟩ : ∃ z, cs c = z := ⟨_, rfl⟩
  rw [hy] at c0 hr2
  rw [hz] at c1 hr2
  clear hy hz
  have HR := hide hr2
  clear h hr hr2
  obtain ⟨yz, hyz⟩ : ∃ yz, decide (y < z) = yz := ⟨_, rfl⟩
  rw [hyz] at HR
  have H19 : Hid (∀ q, Calls Tryd.prog 19 #[.bool yz] ((w.alloc (.cells #[.int .i64 7, .int .i64 a, .int .i64 b, .int .i64 c, .int .i64 d] 33)).drewN q) fun e w' => e = .returned (.int .i64 (truthV yz)) ∧ ∃ n, w' = (w.alloc (.cells #[.int .i64 7, .int .i64 a, .int .i64 b, .int .i64 c, .int .i64 d] 33)).drewN n) := fun q => truth_any.mono (by rintro _ w' ⟨rfl, rfl⟩; exact ⟨rfl, q, rfl⟩)
  go_enter Tryd.func13, Tryd.ntmps13
  go_wp2_with fail
  go_quiet ((go_at_call 19; (first | exact (unhide H19) _ | exact (unhide H19) 0)))
  go_wp2_with fail
  go_ret
  refine ⟨?_, ?_⟩
  · rw [unhide HR]
    first | rfl | simp [go_sem]
  · first | exact (Only.refl _ _).alloc _ | exact ((Only.refl _ _).alloc _).drewN _
set_option maxHeartbeats 2000000 in
theorem told10 {w : World} {mb : Nat} {e : Nat → Int} {pv : Value} {fan : Int} {cs : Nat → Int} {pl : Int} {sv : Value} (h : MAt w mb e pv fan cs pl sv) {a d : Int} {b : Int} {c : Int} :
    Calls Tryd.prog 13 #[.pointer (some ⟨mb, 0, none⟩), .agg #[.int .i64 10, .int .i64 a, .int .i64 b, .int .i64 c, .int .i64 d]] w fun r w' => r = .returned (.int .i64 (toldV ⟨10, a, b, c, d⟩ cs e)) ∧ Only [] w w' := by
  have hlt := h.lt
  have c0 := h.ev (j := 0) (by omega)
  obtain ⟨r, hr⟩ : ∃ r, toldV ⟨10, a, b, c, d⟩ cs e = r := ⟨_, rfl⟩
  have hr2 : r = e 0 := hr.symm
  rw [hr]
  generalize e 0 = z at *
  have HR := hide hr2
  clear h hr hr2
  go_enter Tryd.func13, Tryd.ntmps13
  go_wp2_with fail
  go_ret
  refine ⟨?_, ?_⟩
  · rw [unhide HR]
    first | rfl | simp [go_sem]
  · first | exact (Only.refl _ _).alloc _ | exact ((Only.refl _ _).alloc _).drewN _
set_option maxHeartbeats 2000000 in
theorem told11 {w : World} {mb : Nat} {e : Nat → Int} {pv : Value} {fan : Int} {cs : Nat → Int} {pl : Int} {sv : Value} (h : MAt w mb e pv fan cs pl sv) {a d : Int} {b : Int} {c : Int} :
    Calls Tryd.prog 13 #[.pointer (some ⟨mb, 0, none⟩), .agg #[.int .i64 11, .int .i64 a, .int .i64 b, .int .i64 c, .int .i64 d]] w fun r w' => r = .returned (.int .i64 (toldV ⟨11, a, b, c, d⟩ cs e)) ∧ Only [] w w' := by
  have hlt := h.lt
  have c0 := h.ev (j := 5) (by omega)
  obtain ⟨r, hr⟩ : ∃ r, toldV ⟨11, a, b, c, d⟩ cs e = r := ⟨_, rfl⟩
  have hr2 : r = e 5 := hr.symm
  rw [hr]
  generalize e 5 = z at *
  have HR := hide hr2
  clear h hr hr2
  go_enter Tryd.func13, Tryd.ntmps13
  go_wp2_with fail
  go_ret
  refine ⟨?_, ?_⟩
  · rw [unhide HR]
    first | rfl | simp [go_sem]
  · first | exact (Only.refl _ _).alloc _ | exact ((Only.refl _ _).alloc _).drewN _
set_option maxHeartbeats 2000000 in
theorem told12 {w : World} {mb : Nat} {e : Nat → Int} {pv : Value} {fan : Int} {cs : Nat → Int} {pl : Int} {sv : Value} (h : MAt w mb e pv fan cs pl sv) {a d : Int} {b : Int} {c : Int} :
    Calls Tryd.prog 13 #[.pointer (some ⟨mb, 0, none⟩), .agg #[.int .i64 12, .int .i64 a, .int .i64 b, .int .i64 c, .int .i64 d]] w fun r w' => r = .returned (.int .i64 (toldV ⟨12, a, b, c, d⟩ cs e)) ∧ Only [] w w' := by
  have hlt := h.lt
  have c0 := h.ev (j := 6) (by omega)
  obtain ⟨r, hr⟩ : ∃ r, toldV ⟨12, a, b, c, d⟩ cs e = r := ⟨_, rfl⟩
  have hr2 : r = e 6 := hr.symm
  rw [hr]
  generalize e 6 = z at *
  have HR := hide hr2
  clear h hr hr2
  go_enter Tryd.func13, Tryd.ntmps13
  go_wp2_with fail
  go_ret
  refine ⟨?_, ?_⟩
  · rw [unhide HR]
    first | rfl | simp [go_sem]
  · first | exact (Only.refl _ _).alloc _ | exact ((Only.refl _ _).alloc _).drewN _
set_option maxHeartbeats 2000000 in
theorem told13 {w : World} {mb : Nat} {e : Nat → Int} {pv : Value} {fan : Int} {cs : Nat → Int} {pl : Int} {sv : Value} (h : MAt w mb e pv fan cs pl sv) {a d : Int} {b : Int} {c : Int} :
    Calls Tryd.prog 13 #[.pointer (some ⟨mb, 0, none⟩), .agg #[.int .i64 13, .int .i64 a, .int .i64 b, .int .i64 c, .int .i64 d]] w fun r w' => r = .returned (.int .i64 (toldV ⟨13, a, b, c, d⟩ cs e)) ∧ Only [] w w' := by
  have hlt := h.lt
  have c0 := h.ev (j := 4) (by omega)
  obtain ⟨r, hr⟩ : ∃ r, toldV ⟨13, a, b, c, d⟩ cs e = r := ⟨_, rfl⟩
  have hr2 : r = e 4 := hr.symm
  rw [hr]
  generalize e 4 = z at *
  have HR := hide hr2
  clear h hr hr2
  go_enter Tryd.func13, Tryd.ntmps13
  go_wp2_with fail
  go_ret
  refine ⟨?_, ?_⟩
  · rw [unhide HR]
    first | rfl | simp [go_sem]
  · first | exact (Only.refl _ _).alloc _ | exact ((Only.refl _ _).alloc _).drewN _
end Go.Proofs.YtipllcepoijbiaaDoor
