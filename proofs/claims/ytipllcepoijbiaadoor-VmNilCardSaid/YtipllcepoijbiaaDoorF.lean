/-
  A step where there is an instruction.
-/
import Derived.Test.YtipllcepoijbiaaDoorE
import Derived.Deep.DeepCutAuto
namespace Go.Proofs.YtipllcepoijbiaaDoor
open Go.RowKit Go.Deep
set_option linter.unusedVariables false
set_option linter.unusedSimpArgs false
section
variable {w : World} {mb : Nat} {e : Nat → Int} {A : Option Addr} {cap : Nat} {p : List I} {fan : Int} {s : S} {sv : Value}
set_option maxRecDepth 100000 in
set_option maxHeartbeats 4000000 in
theorem step_try (h : SAt w mb e A cap p fan s sv) (hn : p.length ≤ 1000) {o a bb c d : Int} (hp : p[s.pl]? = some ⟨o, a, bb, c, d⟩) :
    Calls Tryd.prog 7 #[.pointer (some ⟨mb, 0, none⟩)] w fun r w' => r = .returned (.bool false) ∧ Only [] w w' := by
  obtain ⟨cs, pl, L⟩ := s
  simp only at hp
  have hpl : pl < p.length := (List.getElem?_eq_some_iff.1 hp).1
  obtain ⟨b, off, rfl, hbl, x0, x1, x2, x3, x4⟩ := h.p pl _ hp
  simp only at x0 x1 x2 x3 x4
  have HS := hide h
  have hlt := h.lt
  have m7 := h.m.c7
  have m17 := h.m.c17
  simp only at m7 m17
  have HN := hide hn
  have HPL := hide hpl
  have d1 : decide ((p.length : Int) ≤ (pl : Int)) = false := by simp; omega
  have d2 : decide (p.length ≤ pl) = false := by simp; omega
  have d3 : decide ((pl : Int) < (p.length : Int)) = true := by simp; omega
  have d4 : decide (pl < p.length) = true := by simp; omega
  have d5 : decide (0 ≤ (pl : Int)) = true := by simp
  have d6 : (pl : Int) < (p.length : Int) := by omega
  clear h hn hp hpl
  go_enter Tryd.func7, Tryd.ntmps7
  go_wp2_with fail
  go_quiet (fail)
  have hh1 : (w.drewN nq).heap.size = w.heap.size := rfl
  have HS1 : Hid (SAt (w.drewN nq) mb e (some ⟨b, off, none⟩) cap p fan ⟨cs, pl, L⟩ sv ∧ Only [] w (w.drewN nq)) := ⟨(unhide HS).only0 ((Only.refl [] w).drewN nq), (Only.refl [] w).drewN nq⟩
  have y0 : (w.drewN nq).cell? ⟨b, off + pl * 5, none⟩ = some (.int .i64 o) := x0
  have y1 : (w.drewN nq).cell? ⟨b, off + pl * 5 + 1, none⟩ = some (.int .i64 a) := x1
  have y2 : (w.drewN nq).cell? ⟨b, off + pl * 5 + 2, none⟩ = some (.int .i64 bb) := x2
  have y3 : (w.drewN nq).cell? ⟨b, off + pl * 5 + 3, none⟩ = some (.int .i64 c) := x3
  have y4 : (w.drewN nq).cell? ⟨b, off + pl * 5 + 4, none⟩ = some (.int .i64 d) := x4
  have n7 : (w.drewN nq).cell? ⟨mb, 7, none⟩ = some (.slice (some ⟨b, off, none⟩) p.length cap) := m7
  have n17 : (w.drewN nq).cell? ⟨mb, 17, none⟩ = some (.int .i64 (pl : Int)) := m17
  rw [← hh1] at hlt hbl
  clear hh1 x0 x1 x2 x3 x4 m7 m17
  generalize w.drewN nq = w1 at *
  go_wp2_with fail
  go_region
  done
end
end Go.Proofs.YtipllcepoijbiaaDoor
