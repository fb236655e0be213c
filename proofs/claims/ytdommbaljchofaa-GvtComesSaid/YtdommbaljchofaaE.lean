/-
  The contracts of a master's methods, and of the reference's.
-/
import Derived.Test.YtdommbaljchofaaD
import Derived.Deep.QuietTactic
import Derived.BigQuiet
import Derived.BigRegion
import Derived.Outline
namespace Go.Proofs.Ytdommbaljchofaa
open Go.RowKit Go.Deep
set_option linter.unusedVariables false

def mF (rd : Int) (tb n : Nat) (run : Bool) (least time : Int) (o : Nat) : Value :=
  if o = 0 then .int .i64 rd else if o = 1 then .slice (some ⟨tb, 0, none⟩) n n else if o = 2 then .bool run else if o = 3 then .int .i64 least else .int .i64 time
/-- A master in memory. -/
structure MAt (w : World) (qb tb n : Nat) (rd : Int) (told : Nat → Bool) (run : Bool) (least time : Int) : Prop where
  hd : w.rowIs qb 77 5 (mF rd tb n run least time)
  tl : w.rowIs tb 4 n (fun j => .bool (told j))
def toldUp (told : Nat → Bool) (k : Nat) : Nat → Bool := fun j => if j = k then true else told j
namespace MAt
variable {w w' : World} {qb tb n : Nat} {rd least time : Int} {told : Nat → Bool} {run : Bool}
theorem only {s : List Nat} (h : MAt w qb tb n rd told run least time) (k : Only s w w') (h1 : qb ∉ s) (h2 : tb ∉ s) : MAt w' qb tb n rd told run least time := ⟨k.row h.hd h1, k.row h.tl h2⟩
theorem only0 (h : MAt w qb tb n rd told run least time) (k : Only [] w w') : MAt w' qb tb n rd told run least time := h.only k (by simp) (by simp)
theorem c0 (h : MAt w qb tb n rd told run least time) : w.cell? ⟨qb, 0, none⟩ = some (.int .i64 rd) := h.hd.cell (by omega)
theorem c1 (h : MAt w qb tb n rd told run least time) : w.cell? ⟨qb, 1, none⟩ = some (.slice (some ⟨tb, 0, none⟩) n n) := h.hd.cell (by omega)
theorem c2 (h : MAt w qb tb n rd told run least time) : w.cell? ⟨qb, 2, none⟩ = some (.bool run) := h.hd.cell (by omega)
theorem c3 (h : MAt w qb tb n rd told run least time) : w.cell? ⟨qb, 3, none⟩ = some (.int .i64 least) := h.hd.cell (by omega)
theorem c4 (h : MAt w qb tb n rd told run least time) : w.cell? ⟨qb, 4, none⟩ = some (.int .i64 time) := h.hd.cell (by omega)
theorem z (h : MAt w qb tb n rd told run least time) (o : Nat) : w.frozen? ⟨qb, o, none⟩ = false := h.hd.frozen o
theorem ne (h : MAt w qb tb n rd told run least time) : tb ≠ qb := row_ne h.tl h.hd (by decide)
theorem lt (h : MAt w qb tb n rd told run least time) : qb < w.heap.size := h.hd.lt
theorem set0 (h : MAt w qb tb n rd told run least time) (x : Int) : MAt (w.setCell ⟨qb, 0, none⟩ (.int .i64 x)) qb tb n x told run least time :=
  ⟨(h.hd.set 0 _).congr (by intro o ho; simp only [mF]; rcases (show o = 0 ∨ o = 1 ∨ o = 2 ∨ o = 3 ∨ o = 4 by omega) with rfl | rfl | rfl | rfl | rfl <;> rfl), h.tl.setOther (by exact h.ne) _⟩
theorem set2 (h : MAt w qb tb n rd told run least time) (x : Bool) : MAt (w.setCell ⟨qb, 2, none⟩ (.bool x)) qb tb n rd told x least time :=
  ⟨(h.hd.set 2 _).congr (by intro o ho; simp only [mF]; rcases (show o = 0 ∨ o = 1 ∨ o = 2 ∨ o = 3 ∨ o = 4 by omega) with rfl | rfl | rfl | rfl | rfl <;> rfl), h.tl.setOther (by exact h.ne) _⟩
theorem set3 (h : MAt w qb tb n rd told run least time) (x : Int) : MAt (w.setCell ⟨qb, 3, none⟩ (.int .i64 x)) qb tb n rd told run x time :=
  ⟨(h.hd.set 3 _).congr (by intro o ho; simp only [mF]; rcases (show o = 0 ∨ o = 1 ∨ o = 2 ∨ o = 3 ∨ o = 4 by omega) with rfl | rfl | rfl | rfl | rfl <;> rfl), h.tl.setOther (by exact h.ne) _⟩
theorem set4 (h : MAt w qb tb n rd told run least time) (x : Int) : MAt (w.setCell ⟨qb, 4, none⟩ (.int .i64 x)) qb tb n rd told run least x :=
  ⟨(h.hd.set 4 _).congr (by intro o ho; simp only [mF]; rcases (show o = 0 ∨ o = 1 ∨ o = 2 ∨ o = 3 ∨ o = 4 by omega) with rfl | rfl | rfl | rfl | rfl <;> rfl), h.tl.setOther (by exact h.ne) _⟩
theorem setT (h : MAt w qb tb n rd told run least time) (k : Nat) : MAt (w.setCell ⟨tb, k, none⟩ (.bool true)) qb tb n rd (toldUp told k) run least time :=
  ⟨h.hd.setOther (by exact fun e => h.ne e.symm) _, (h.tl.set k _).congr (by intro j hj; simp only [toldUp]; split <;> rfl)⟩
theorem set1 (h : MAt w qb tb n rd told run least time) {t2 : Nat} {f : Nat → Bool} (ht : w.rowIs t2 4 n (fun j => .bool (f j))) : MAt (w.setCell ⟨qb, 1, none⟩ (.slice (some ⟨t2, 0, none⟩) n n)) qb t2 n rd f run least time :=
  ⟨(h.hd.set 1 _).congr (by intro o ho; simp only [mF]; rcases (show o = 0 ∨ o = 1 ∨ o = 2 ∨ o = 3 ∨ o = 4 by omega) with rfl | rfl | rfl | rfl | rfl <;> rfl), ht.setOther (by exact row_ne ht h.hd (by decide)) _⟩
theorem fresh (h : MAt w qb tb n rd told run least time) : MAt ((w.setCell ⟨qb, 1, none⟩ (.slice (some ⟨w.heap.size, 0, none⟩) n n)).alloc (.cells (madeCells #[.bool false] n) 4)) qb w.heap.size n rd (fun _ => false) run least time := by
  have hs : (w.setCell ⟨qb, 1, none⟩ (.slice (some ⟨w.heap.size, 0, none⟩) n n)).heap.size = w.heap.size := by simp
  have hr := World.rowIs_made (w.setCell ⟨qb, 1, none⟩ (.slice (some ⟨w.heap.size, 0, none⟩) n n)) (.bool false) n 4
  rw [hs] at hr
  exact ⟨((h.hd.set 1 _).congr (by intro o ho; simp only [mF]; rcases (show o = 0 ∨ o = 1 ∨ o = 2 ∨ o = 3 ∨ o = 4 by omega) with rfl | rfl | rfl | rfl | rfl <;> rfl)).alloc _, hr⟩
theorem alloc (h : MAt w qb tb n rd told run least time) (o : Obj) : MAt (w.alloc o) qb tb n rd told run least time := h.only0 ((Only.refl _ _).alloc o)
theorem drewN (h : MAt w qb tb n rd told run least time) (k : Nat) : MAt (w.drewN k) qb tb n rd told run least time := ⟨h.hd, h.tl⟩
end MAt

def rF (rd : Int) (lb n : Nat) (run : Bool) (time : Int) (o : Nat) : Value :=
  if o = 0 then .slice (some ⟨lb, 0, none⟩) n n else if o = 1 then .int .i64 rd else if o = 2 then .bool run else .int .i64 time
/-- The reference's master in memory. -/
structure RMAt (w : World) (rb lb n : Nat) (rd : Int) (L : Nat → Int) (run : Bool) (time : Int) : Prop where
  hd : w.rowIs rb 60 4 (rF rd lb n run time)
  tl : w.rowIs lb 3 n (fun j => .int .i64 (L j))
def lUp (L : Nat → Int) (k : Nat) (x : Int) : Nat → Int := fun j => if j = k then x else L j
namespace RMAt
variable {w w' : World} {rb lb n : Nat} {rd time : Int} {L : Nat → Int} {run : Bool}
theorem only {s : List Nat} (h : RMAt w rb lb n rd L run time) (k : Only s w w') (h1 : rb ∉ s) (h2 : lb ∉ s) : RMAt w' rb lb n rd L run time := ⟨k.row h.hd h1, k.row h.tl h2⟩
theorem only0 (h : RMAt w rb lb n rd L run time) (k : Only [] w w') : RMAt w' rb lb n rd L run time := h.only k (by simp) (by simp)
theorem c0 (h : RMAt w rb lb n rd L run time) : w.cell? ⟨rb, 0, none⟩ = some (.slice (some ⟨lb, 0, none⟩) n n) := h.hd.cell (by omega)
theorem c1 (h : RMAt w rb lb n rd L run time) : w.cell? ⟨rb, 1, none⟩ = some (.int .i64 rd) := h.hd.cell (by omega)
theorem c2 (h : RMAt w rb lb n rd L run time) : w.cell? ⟨rb, 2, none⟩ = some (.bool run) := h.hd.cell (by omega)
theorem c3 (h : RMAt w rb lb n rd L run time) : w.cell? ⟨rb, 3, none⟩ = some (.int .i64 time) := h.hd.cell (by omega)
theorem z (h : RMAt w rb lb n rd L run time) (o : Nat) : w.frozen? ⟨rb, o, none⟩ = false := h.hd.frozen o
theorem ne (h : RMAt w rb lb n rd L run time) : lb ≠ rb := row_ne h.tl h.hd (by decide)
theorem lt (h : RMAt w rb lb n rd L run time) : rb < w.heap.size := h.hd.lt
theorem set1 (h : RMAt w rb lb n rd L run time) (x : Int) : RMAt (w.setCell ⟨rb, 1, none⟩ (.int .i64 x)) rb lb n x L run time :=
  ⟨(h.hd.set 1 _).congr (by intro o ho; simp only [rF]; rcases (show o = 0 ∨ o = 1 ∨ o = 2 ∨ o = 3 by omega) with rfl | rfl | rfl | rfl <;> rfl), h.tl.setOther (by exact h.ne) _⟩
theorem set2 (h : RMAt w rb lb n rd L run time) (x : Bool) : RMAt (w.setCell ⟨rb, 2, none⟩ (.bool x)) rb lb n rd L x time :=
  ⟨(h.hd.set 2 _).congr (by intro o ho; simp only [rF]; rcases (show o = 0 ∨ o = 1 ∨ o = 2 ∨ o = 3 by omega) with rfl | rfl | rfl | rfl <;> rfl), h.tl.setOther (by exact h.ne) _⟩
theorem set3 (h : RMAt w rb lb n rd L run time) (x : Int) : RMAt (w.setCell ⟨rb, 3, none⟩ (.int .i64 x)) rb lb n rd L run x :=
  ⟨(h.hd.set 3 _).congr (by intro o ho; simp only [rF]; rcases (show o = 0 ∨ o = 1 ∨ o = 2 ∨ o = 3 by omega) with rfl | rfl | rfl | rfl <;> rfl), h.tl.setOther (by exact h.ne) _⟩
theorem setL (h : RMAt w rb lb n rd L run time) (k : Nat) (x : Int) : RMAt (w.setCell ⟨lb, k, none⟩ (.int .i64 x)) rb lb n rd (lUp L k x) run time :=
  ⟨h.hd.setOther (by exact fun e => h.ne e.symm) _, (h.tl.set k _).congr (by intro j hj; simp only [lUp]; split <;> rfl)⟩
theorem congr (h : RMAt w rb lb n rd L run time) {L' : Nat → Int} (e : ∀ j, j < n → L j = L' j) : RMAt w rb lb n rd L' run time := ⟨h.hd, h.tl.congr (by intro j hj; show Value.int .i64 (L j) = _; rw [e j hj])⟩
theorem alloc (h : RMAt w rb lb n rd L run time) (o : Obj) : RMAt (w.alloc o) rb lb n rd L run time := h.only0 ((Only.refl _ _).alloc o)
theorem drewN (h : RMAt w rb lb n rd L run time) (k : Nat) : RMAt (w.drewN k) rb lb n rd L run time := ⟨h.hd, h.tl⟩
end RMAt

theorem Try.info4 : (Try.prog.info? 4).map (fun i => (i.zero, i.size, i.bytes)) = some (some (.bool false), 1, 1) := by kernel_rfl

theorem newm_bad {w : World} {n : Int} (h : n < 1 ∨ 8 < n) : Calls Try.prog 26 #[.int .i64 n] w fun e w' => e = .returned (.tuple #[.pointer none, .int .i64 1]) ∧ w = w' := by
  by_cases h1 : n < 1
  · clear h
    go_enter Try.func26, Try.ntmps26
    go_wp2_with fail
    go_ret2
    exact ⟨rfl, rfl⟩
  · have h2 : 8 < n := by omega
    clear h
    go_enter Try.func26, Try.ntmps26
    go_wp2_with fail
    go_ret2
    exact ⟨rfl, rfl⟩
theorem newm_ok {w : World} {n : Nat} (h1 : 1 ≤ n) (h2 : n ≤ 8) : Calls Try.prog 26 #[.int .i64 (n : Int)] w fun e w' => ∃ qb tb, e = .returned (.tuple #[.pointer (some ⟨qb, 0, none⟩), .int .i64 0]) ∧ MAt w' qb tb n 0 (fun _ => false) false 0 0 ∧ Below w.heap.size w w' ∧ w.heap.size ≤ qb ∧ w.heap.size ≤ tb := by
  have hmk := run_make_row' (P := Try.prog) 75 4 (.bool false) 1 Try.underlying75 Try.info4 rfl .i64 .i64 n (by omega) (by omega)
  have d1 : decide ((n : Int) < 1) = false := by simp; omega
  have d2 : decide (8 < (n : Int)) = false := by simp; omega
  go_enter Try.func26, Try.ntmps26
  go_wp2_with fail
  go_ret2
  refine ⟨w.heap.size + 1, w.heap.size, rfl, ⟨?_, ?_⟩, ((Below.refl _ _).alloc (Nat.le_refl _) _).alloc (by simp) _, by omega, Nat.le_refl _⟩
  · have h := World.rowIs_alloc (w.alloc (.cells (madeCells #[.bool false] n) 4)) #[.int .i64 0, .slice (some ⟨w.heap.size, 0, none⟩) n n, .bool false, .int .i64 0, .int .i64 0] 77 (mF 0 w.heap.size n false 0 0) (by
      intro i hi
      simp at hi
      rcases (show i = 0 ∨ i = 1 ∨ i = 2 ∨ i = 3 ∨ i = 4 by omega) with rfl | rfl | rfl | rfl | rfl <;> rfl)
    have hs : (w.alloc (.cells (madeCells #[.bool false] n) 4)).heap.size = w.heap.size + 1 := by simp
    rw [hs] at h
    exact h
  · exact ((World.rowIs_made _ _ _ _).congr fun _ _ => rfl).alloc _

section
variable {w : World} {qb tb n : Nat} {rd least time : Int} {told : Nat → Bool} {run : Bool}
theorem begin_run (h : MAt w qb tb n rd told true least time) : Calls Try.prog 27 #[.pointer (some ⟨qb, 0, none⟩)] w fun e w' => e = .returned (.tuple #[.int .i64 0, .int .i64 19]) ∧ w = w' := by
  have c2 := h.c2
  clear h
  go_enter Try.func27, Try.ntmps27
  go_wp2_with fail
  go_ret2
  exact ⟨rfl, rfl⟩
theorem mtime_any (h : MAt w qb tb n rd told run least time) : Calls Try.prog 21 #[.pointer (some ⟨qb, 0, none⟩)] w fun e w' => e = .returned (.int .i64 time) ∧ w = w' := by
  have c4 := h.c4
  clear h
  go_enter Try.func21, Try.ntmps21
  go_wp2_with fail
  go_ret
  exact ⟨rfl, rfl⟩
theorem running_any (h : MAt w qb tb n rd told run least time) : Calls Try.prog 24 #[.pointer (some ⟨qb, 0, none⟩)] w fun e w' => e = .returned (.bool run) ∧ w = w' := by
  have c2 := h.c2
  clear h
  go_enter Try.func24, Try.ntmps24
  go_wp2_with fail
  go_ret
  exact ⟨rfl, rfl⟩
theorem rounds_any (h : MAt w qb tb n rd told run least time) : Calls Try.prog 31 #[.pointer (some ⟨qb, 0, none⟩)] w fun e w' => e = .returned (.int .i64 rd) ∧ w = w' := by
  have c0 := h.c0
  clear h
  go_enter Try.func31, Try.ntmps31
  go_wp2_with fail
  go_ret
  exact ⟨rfl, rfl⟩
set_option maxHeartbeats 1000000 in
theorem begin_ok (h : MAt w qb tb n rd told false least time) (hn : n ≤ 8) (h0 : 0 ≤ rd) (hr : rd ≤ 1000000) : Calls Try.prog 27 #[.pointer (some ⟨qb, 0, none⟩)] w fun e w' =>
    e = .returned (.tuple #[.int .i64 (rd + 1), .int .i64 0]) ∧ MAt w' qb w.heap.size n (rd + 1) (fun _ => false) true Never time ∧ Only [qb] w w' := by
  have hmk := run_make_row' (P := Try.prog) 75 4 (.bool false) 1 Try.underlying75 Try.info4 rfl .i64 .i64 n (by omega) (by omega)
  have c0 := h.c0
  have c1 := h.c1
  have c2 := h.c2
  have c3 := h.c3
  have hc0 := hide c0
  have z0 := h.z 0
  have z1 := h.z 1
  have z2 := h.z 2
  have z3 := h.z 3
  have hlt := h.lt
  have H : Hid (MAt w qb tb n rd told false least time) := h
  clear h
  go_enter Try.func27, Try.ntmps27
  go_wp2_with (go_at_call 37; refine (next_any (unhide hc0) h0 hr).mono ?_; rintro e w' ⟨rfl, rfl⟩)
  go_ret2
  refine ⟨rfl, ?_, ?_⟩
  · have h3 := (((H.out.set0 (rd + 1)).set2 true).set3 Never).fresh
    simp only [World.size_setCell] at h3
    exact h3
  · exact (((((Only.refl _ _).setIn (by simp) _).setIn (by simp) _).setIn (by simp) _).setIn (by simp) _).alloc _
end
end Go.Proofs.Ytdommbaljchofaa
