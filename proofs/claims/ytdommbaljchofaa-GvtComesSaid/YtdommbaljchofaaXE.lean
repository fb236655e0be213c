/-
  The statements' world: a round begins.
-/
import Derived.Test.YtdommbaljchofaaXD
namespace Go.Proofs.Ytdommbaljchofaa
open Go.RowKit Go.Deep
set_option linter.unusedVariables false

theorem Try.info79 : (Try.prog.info? 79).map (fun i => (i.zero, i.size, i.bytes)) = some (some (.agg #[.int .i64 0, .int .i64 0, .int .i64 0, .int .i64 0, .int .i64 0]), 5, 40) := by kernel_rfl

theorem XAt.pushed {W w w1 w3 : World} {xb : Nat} {x : XS} (h : XAt W w xb x) (p : Pk) {A' : Option Addr} {c' : Nat} (hw1 : Only [] w w1)
    (hown : w3.ownsRow W.heap.size 79 5 (.slice A' (x.l.length + 1) c') (x.l.length + 1) (x.l.flatMap Pk.cells ++ p.cells)) (hgrow : w1.grownBy w3 (Value.slice x.lv x.l.length x.lc).ownBlock) :
    XAt W (w3.setCell ⟨xb, 2, none⟩ (.slice A' (x.l.length + 1) c')) xb { x with lv := A', lc := c', l := x.l ++ [p] } := by
  have hk : Only (ob x.lv x.l.length x.lc) w w3 := (hw1.mono (by simp)).trans (only_grown hgrow)
  have h' := h.packets (l' := x.l ++ [p]) (lv' := A') (lc' := c') (by simpa [List.flatMap_append] using hown) hk
  simpa using h'
theorem XAt.lr' {W w : World} {xb : Nat} {x : XS} (h : XAt W w xb x) : w.ownsRow W.heap.size 79 5 (.slice x.lv x.l.length x.lc) x.l.length (x.l.flatMap Pk.cells) := h.lr
theorem pk_one (p : Pk) : ∀ u ∈ p.cells, u.oneCell' = true := by
  intro u hu
  simp only [Pk.cells, List.mem_cons, List.not_mem_nil, or_false] at hu
  rcases hu with rfl | rfl | rfl | rfl | rfl <;> rfl

/-- What a round's beginning lays on its way. -/
def starts (n : Nat) (rd : Int) : List Pk := (List.range n).map fun (i : Nat) => (⟨2, 0, (i : Int), rd, 0⟩ : Pk)
theorem starts_succ (n : Nat) (rd : Int) : starts (n + 1) rd = starts n rd ++ [⟨2, 0, (n : Int), rd, 0⟩] := by
  simp [starts, List.range_succ]

section
variable {W w : World} {xb : Nat} {x : XS}
set_option maxRecDepth 100000 in
set_option maxHeartbeats 4000000 in
theorem begins_run (h : XAt W w xb x) (hr : x.run = true) : Calls Try.prog 25 #[.pointer (some ⟨xb, 0, none⟩)] w fun e w' => e = .returned (.tuple #[]) ∧ w = w' := by
  have c3 := h.c3
  have hm := h.ma
  rw [hr] at hm
  have HM := hide hm
  have hlt := h.lt
  clear h hm
  go_enter Try.func25, Try.ntmps25
  go_wp2_with fail
  refine (begin_run (unhide HM)).mono ?_
  rintro e w' ⟨rfl, rfl⟩
  go_wp2_with fail
  refine bodyPost_ret (results_none rfl _ _ _) rfl ?_
  exact ⟨rfl, rfl⟩
set_option maxRecDepth 100000 in
set_option maxHeartbeats 4000000 in
theorem begins_ok (h : XAt W w xb x) (hr : x.run = false) (hn : x.n ≤ 8) (hK : x.K.length ≤ 8) (h0 : 0 ≤ x.rd) (h1 : x.rd ≤ 1000000) (hl : x.l.length ≤ 1000000) :
    Calls Try.prog 25 #[.pointer (some ⟨xb, 0, none⟩)] w fun e w' => e = .returned (.tuple #[]) ∧ ∃ tb' lv' lc', XAt W w' xb { x with tb := tb', lv := lv', lc := lc', rd := x.rd + 1, told := fun _ => false, run := true, least := Never, l := x.l ++ starts x.K.length (x.rd + 1) } := by
  obtain ⟨i0, hi, hz0, hz1, hz2⟩ := info_parts Try.info79
  have c3 := h.c3
  have hm := h.ma
  rw [hr] at hm
  have HM := hide hm
  have hlt := h.lt
  have H := hide h
  clear h hm
  go_enter Try.func25, Try.ntmps25
  go_wp2_with fail
  refine (begin_ok (unhide HM) hn h0 h1).mono ?_
  rintro e w1 ⟨rfl, hM1, hO1⟩
  have hx1 := (unhide H).master hM1 (hO1.mono (by simp)) (unhide H).bl.size
  have HX1 := hide hx1
  clear hM1 hO1 hx1 c3
  generalize w.heap.size = tb' at *
  go_wp2_with fail
  go_loopg [4] x.K.length (fun g i wr => ∃ (k : Nat) (lv' : Option Addr) (lc' : Nat), k + g = x.K.length ∧ i = .int .i64 k ∧ XAt W wr xb { x with tb := tb', lv := lv', lc := lc', rd := x.rd + 1, told := fun _ => false, run := true, least := Never, l := x.l ++ starts k (x.rd + 1) })
  case atStart => exact ⟨0, x.lv, x.lc, by omega, rfl, by simpa [starts] using unhide HX1⟩
  case round =>
    obtain ⟨k, lv', lc', hkg, rfl, hX⟩ := hrel
    have HX := hide hX
    have c0 := hX.c0
    have c2 := hX.c2
    have z2 := hX.z 2
    have hltr := hX.lt
    have hbl := hX.bl.size
    clear hX
    simp only at c0 c2
    have hll : (x.l ++ starts k (x.rd + 1)).length ≤ 1000008 := by simp [starts]; omega
    by_cases hk : k < x.K.length
    · have g2 : decide (k < x.K.length) = true := by simp; omega
      have HLR := hide (unhide HX).lr'
      simp only at HLR
      have HW8 : Hid (XAt W wr xb { x with tb := tb', lv := lv', lc := lc', rd := x.rd + 1, told := fun _ => false, run := true, least := Never, l := x.l ++ starts k (x.rd + 1) }) := unhide HX
      obtain ⟨l2, hl2⟩ : ∃ l2, x.l ++ starts k (x.rd + 1) = l2 := ⟨_, rfl⟩
      have hs : x.l ++ starts (k + 1) (x.rd + 1) = l2 ++ [⟨2, 0, (k : Int), x.rd + 1, 0⟩] := by rw [starts_succ, ← List.append_assoc, hl2]
      have HS := hide hs
      rw [hl2] at HLR c2 HW8 hll
      clear hl2 hs HX
      go_wp2_with (at_builtin; refine wpList_append_own_at _ rfl (.tmp 28) (.tmp 32) 51 rfl W.heap.size 79 i0 (.agg #[.int .i64 0, .int .i64 0, .int .i64 0, .int .i64 0, .int .i64 0]) 5 40 Try.underlying51 hi hz0 hz1 hz2 rfl (by decide) _ _ _ rfl ((unhide HLR).alloc _) ⟨wr.heap.size, 0, none⟩ 1 1 (Pk.cells ⟨2, 0, (k : Int), x.rd + 1, 0⟩) rfl rfl (new_cells _ _ 79 _ rfl) (pk_one _) (by unfold maxLen; omega) (by omega) (by simp; omega) ?_)
      intro v3 w3 hown hgrow _ _
      obtain ⟨A', c', rfl⟩ := owns_form hown
      have hp := (unhide HW8).pushed ⟨2, 0, (k : Int), x.rd + 1, 0⟩ ((Only.refl _ _).alloc _) hown hgrow
      have HP := hide hp
      have hk3 : Only (ob lv' l2.length lc') wr w3 := (((Only.refl [] wr).alloc _).mono (by simp)).trans (only_grown hgrow)
      have hnx : xb ∉ ob lv' l2.length lc' := fun hm => owns_row_ne (unhide HLR) (unhide HW8).hd (by decide) xb (by simpa [ob] using hm) rfl
      have q2 : w3.cell? ⟨xb, 2, none⟩ = some (.slice lv' l2.length lc') := (hk3.cell (p := ⟨xb, 2, none⟩) hltr hnx).trans c2
      have y2 : w3.frozen? ⟨xb, 2, none⟩ = false := (hk3.frozen (p := ⟨xb, 2, none⟩) hltr hnx).trans z2
      have hlt3 : xb < w3.heap.size := Nat.lt_of_lt_of_le hltr hk3.size
      clear hp hown hgrow hk3 hnx c0 c2 z2
      go_wp2_with fail
      go_roundg (x.K.length - (k + 1))
      case measure => omega
      case rel =>
        refine ⟨k + 1, A', c', by omega, by go_num, ?_⟩
        rw [unhide HS]
        exact unhide HP
    · have g2 : decide (k < x.K.length) = false := by simp; omega
      have e : k = x.K.length := by omega
      subst e
      go_wp2_with fail
      first | go_end0 | refine bodyPost_ret (results_none rfl _ _ _) rfl ?_
      exact ⟨rfl, tb', lv', lc', unhide HX⟩
end
end Go.Proofs.Ytdommbaljchofaa
