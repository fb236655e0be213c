/-
  The contract of slab.New.
-/
import Derived.Test.YtegnbodolkaelaaG
namespace Go.Proofs.Ytegnbodolkaelaa
open Go.RowKit Go.Deep
set_option linter.unusedVariables false

/-- A new slab lies in new blocks. -/
def NewPost (w : World) (n : Nat) (r : Int) (e : Ending) (w' : World) : Prop :=
  ∃ sb lb fb cap, e = .returned (.tuple #[.pointer (some ⟨sb, 0, none⟩), .int .i64 0]) ∧ At w' sb lb fb cap (Sl.new n r) ∧ Below w.heap.size w w' ∧ w.heap.size ≤ sb ∧ w.heap.size ≤ lb ∧ w.heap.size ≤ fb

theorem new_arg {w : World} {n r : Int} (h : n < 1 ∨ 4096 < n ∨ r < 0 ∨ n < r) :
    Calls Try.prog 8 #[.int .i64 n, .int .i64 r] w fun e w' => e = .returned (.tuple #[.pointer none, .int .i64 1]) ∧ w = w' := by
  by_cases h1 : n < 1
  · clear h
    go_enter Try.func8, Try.ntmps8
    go_wp2_with fail
    go_ret2
    exact ⟨rfl, rfl⟩
  by_cases h2 : 4096 < n
  · clear h
    go_enter Try.func8, Try.ntmps8
    go_wp2_with fail
    go_ret2
    exact ⟨rfl, rfl⟩
  by_cases h3 : r < 0
  · clear h
    go_enter Try.func8, Try.ntmps8
    go_wp2_with fail
    go_ret2
    exact ⟨rfl, rfl⟩
  · have h4 : n < r := by omega
    clear h
    go_enter Try.func8, Try.ntmps8
    go_wp2_with fail
    go_ret2
    exact ⟨rfl, rfl⟩

def newSlot (k o : Nat) : Value := .int .i64 (if o % 4 = 0 ∧ o / 4 < k then ((o / 4 : Nat) : Int) else 0)
def newHead (lb n : Nat) (A : Option Addr) (k c : Nat) (r : Int) (o : Nat) : Value :=
  if o = 0 then .slice (some ⟨lb, 0, none⟩) n n else if o = 1 then .slice A k c else if o = 2 then .int .i64 r else .int .i64 0
def newFree (n : Nat) (j : Nat) : Value := .int .i64 ((n : Int) - 1 - j)

/-- What holds at every round's head. -/
structure NewRel (W w : World) (sb lb n : Nat) (r : Int) (k : Nat) (A : Option Addr) (c : Nat) : Prop where
  sl : w.rowIs lb 53 (n * 4) (newSlot k)
  hd : w.rowIs sb 49 8 (newHead lb n A k c r)
  fr : w.ownsRow W.heap.size 3 1 (.slice A k c) k ((List.range k).map (newFree n))
  bl : Below W.heap.size W w
  b1 : W.heap.size ≤ sb
  b2 : W.heap.size ≤ lb

theorem newRel_step {W w w1 : World} {sb lb n : Nat} {r : Int} {k : Nat} {A : Option Addr} {c g c1 : Nat} (h : NewRel W w sb lb n r k A c) (hk : k < n) {X : Obj}
    (ho : w1.ownsRow W.heap.size 3 1 (.slice (some ⟨g, 0, none⟩) (k + 1) c1) (k + 1) ((List.range k).map (newFree n) ++ [.int .i64 ((n : Int) - 1 - k)]))
    (hg : ((w.setCell ⟨lb, k * 4, none⟩ (.int .i64 k)).alloc X).grownBy w1 (Value.ownBlock (.slice A k c))) :
    NewRel W (w1.setCell ⟨sb, 1, none⟩ (.slice (some ⟨g, 0, none⟩) (k + 1) c1)) sb lb n r (k + 1) (some ⟨g, 0, none⟩) c1 := by
  have n1 : sb ≠ lb := row_ne h.hd h.sl (by decide)
  have e1 := owns_row_ne h.fr h.hd (by decide)
  have e2 := owns_row_ne h.fr h.sl (by decide)
  have hs1 := (((h.sl.set (k * 4) (.int .i64 k)).alloc X).of_block (hg.block lb (by have := h.sl.lt; simp; omega) (fun e => e2 lb e.symm rfl)))
  have hh1 := (((h.hd.setOther (a := ⟨lb, k * 4, none⟩) n1 (.int .i64 k)).alloc X).of_block (hg.block sb (by have := h.hd.lt; simp; omega) (fun e => e1 sb e.symm rfl)))
  have er : (List.range k).map (newFree n) ++ [.int .i64 ((n : Int) - 1 - k)] = (List.range (k + 1)).map (newFree n) := by
    rw [List.range_succ, List.map_append]; rfl
  rw [er] at ho
  refine ⟨(hs1.setOther n1.symm _).congr fun o hoo => ?_, (hh1.set 1 _).congr fun o hoo => ?_, ?_, ?_, h.b1, h.b2⟩
  · simp only [newSlot]
    by_cases e : o = k * 4
    · subst e
      rw [if_pos rfl, if_pos ⟨by omega, by omega⟩]
      congr 1
      omega
    · rw [if_neg e]
      congr 1
      by_cases q : o % 4 = 0
      · by_cases q1 : o / 4 < k
        · rw [if_pos ⟨q, q1⟩, if_pos ⟨q, by omega⟩]
        · rw [if_neg (by omega), if_neg (by omega)]
      · rw [if_neg (by omega), if_neg (by omega)]
  · simp only [newHead]
    by_cases e : o = 1
    · subst e; simp
    · simp only [if_neg e]
  · have hne := owns_row_ne ho hh1 (by decide)
    exact ho.kept (row := some sb) ⟨rfl, rfl, rfl, by simp, fun i _ hi => Below.heap_setCell _ _ _ _ (fun e => hi (by rw [e]))⟩ (.inr (by
      intro e
      exact hne sb e rfl))
  · have hb1 := (((h.bl.setCell (p := ⟨lb, k * 4, none⟩) h.b2 (.int .i64 k)).alloc (by have := h.bl.size; simp; omega) X).grown hg (by have := h.bl.size; simp; omega) (fun j hj => (h.fr.lt j hj).1))
    exact hb1.setCell h.b1 _

theorem ownsRow_setCell_other {W w : World} {sb lb n : Nat} {r : Int} {k : Nat} {A : Option Addr} {c o : Nat} {u : Value} (ho : w.ownsRow W.heap.size 3 1 (.slice A k c) k ((List.range k).map (newFree n))) (h : NewRel W w sb lb n r k A c) :
    (w.setCell ⟨lb, o, none⟩ u).ownsRow W.heap.size 3 1 (.slice A k c) k ((List.range k).map (newFree n)) := by
  have hne := owns_row_ne ho h.sl (by decide)
  exact ho.kept (row := some lb) ⟨rfl, rfl, rfl, by simp, fun i _ hi => Below.heap_setCell _ _ _ _ (fun e => hi (by rw [e]))⟩ (.inr (by
    intro e
    exact hne lb e rfl))

theorem Try.info3 : (Try.prog.info? 3).map (fun i => (i.zero, i.size, i.bytes)) = some (some (.int .i64 0), 1, 8) := by kernel_rfl
theorem Try.info53 : (Try.prog.info? 53).map (fun i => (i.zero, i.size, i.bytes)) = some (some (.agg #[.int .i64 0, .int .i64 0, .int .i64 0, .int .i64 0]), 4, 32) := by kernel_rfl

set_option maxRecDepth 100000 in
set_option maxHeartbeats 1000000 in
theorem new_ok {w : World} {n : Nat} {r : Int} (h1 : 1 ≤ n) (h2 : n ≤ 4096) (hr0 : 0 ≤ r) (hr1 : r ≤ n) :
    Calls Try.prog 8 #[.int .i64 n, .int .i64 r] w fun e w' => NewPost w n r e w' := by
  obtain ⟨i0, hi, hz0, hz1, hz2⟩ := info_parts Try.info3
  obtain ⟨i5, hi5, hy0, hy1, hy2⟩ := info_parts Try.info53
  have hmk : ∀ w : World, (Instr.makeSlice 46 (.int .i64 (n : Int)) (.int .i64 (n : Int))).run Try.prog w = .ok (.slice (some ⟨w.heap.size, 0, none⟩) n n) (w.alloc (.cells (madeCells (Array.replicate 4 (.int .i64 0)) (n * 4)) 53)) := fun w => by
    have h := run_make_many (P := Try.prog) 46 53 i5 _ Try.underlying46 hi5 hy0 n (by rw [hy2]; omega) (by omega) w
    rw [hy1] at h
    exact h
  clear hi5 hy0 hy1 hy2
  have d1 : decide ((n : Int) < 1) = false := by simp; omega
  have d2 : decide (4096 < (n : Int)) = false := by simp; omega
  have d3 : decide (r < 0) = false := by simp; omega
  have d4 : decide ((n : Int) < r) = false := by simp; omega
  go_enter Try.func8, Try.ntmps8
  go_wp2_with fail
  go_loopw [33] (fun i wr => ∃ (k : Nat) (A : Option Addr) (c : Nat), k ≤ n ∧ i = .int .i64 k ∧ NewRel w wr (w.heap.size + 1) w.heap.size n r k A c) (fun i _ => n - (intOf i).toNat)
  case atStart =>
    refine ⟨0, none, 0, Nat.zero_le _, rfl, ?_, ?_, World.ownsRow_nil _ _ _ _, ((Below.refl _ _).alloc (Nat.le_refl _) _).alloc (by simp) _, by omega, Nat.le_refl _⟩
    · refine ((row_made_zeros w 4 n 53 (by omega)).alloc _).congr fun o _ => ?_
      simp [newSlot]
    · have h := World.rowIs_alloc (w.alloc (.cells (madeCells (Array.replicate 4 (.int .i64 0)) (n * 4)) 53)) #[.slice (some ⟨w.heap.size, 0, none⟩) n n, .slice none 0 0, .int .i64 r, .int .i64 0, .int .i64 0, .int .i64 0, .int .i64 0, .int .i64 0] 49 (newHead w.heap.size n none 0 0 r) (by
        intro i hi
        simp at hi
        rcases (show i = 0 ∨ i = 1 ∨ i = 2 ∨ i = 3 ∨ i = 4 ∨ i = 5 ∨ i = 6 ∨ i = 7 by omega) with rfl | rfl | rfl | rfl | rfl | rfl | rfl | rfl <;> rfl)
      simpa using h
  case round =>
    obtain ⟨k, A, c, hk, rfl, hR⟩ := hrel
    have hn1 : w.heap.size + 1 ≠ w.heap.size := by omega
    have HR : Hid (NewRel w wr (w.heap.size + 1) w.heap.size n r k A c) := hR
    have g0 : wr.cell? ⟨w.heap.size + 1, 0, none⟩ = some (.slice (some ⟨w.heap.size, 0, none⟩) n n) := hR.hd.cell (by omega)
    have g1 : wr.cell? ⟨w.heap.size + 1, 1, none⟩ = some (.slice A k c) := hR.hd.cell (by omega)
    have g2 : wr.frozen? ⟨w.heap.size + 1, 1, none⟩ = false := hR.hd.frozen 1
    have g3 : wr.frozen? ⟨w.heap.size, k * 4, none⟩ = false := hR.sl.frozen _
    have g4 := hR.hd.lt
    have g5 := hR.sl.lt
    have hown := hR.fr
    by_cases hlt : k < n
    · have g6 : wr.cell? ⟨w.heap.size, k * 4, none⟩ = some (newSlot k (k * 4)) := hR.sl.cell (by omega)
      have HO : Hid (wr.ownsRow w.heap.size 3 1 (.slice A k c) k ((List.range k).map (newFree n))) := hown
      clear hR hown
      generalize newSlot k (k * 4) = vv at g6
      go_wp2_with (at_builtin; refine wpList_append_lies _ rfl _ _ 29 rfl w.heap.size 3 i0 (.int .i64 0) 1 8 Try.underlying29 hi hz0 hz1 hz2 rfl (by decide) _ _ _ rfl ((ownsRow_setCell_other HO.out HR.out).alloc _) ⟨wr.heap.size, 0, none⟩ 1 1 [.int .i64 ((n : Int) - 1 - k)] rfl rfl ?c1 ?c2 (by decide) ?c3 ?c4 ?c5 (wr.heap.size + 1) ?c6 ?_)
      case c1 =>
        have h := cell_one_new (wr.setCell ⟨w.heap.size, k * 4, none⟩ (.int .i64 (k : Int))) (.int .i64 ((n : Int) - 1 - k)) 3
        rw [World.size_setCell] at h
        exact h
      case c2 => intro u hu; simp at hu; subst hu; rfl
      case c3 => unfold maxLen; omega
      case c4 => omega
      case c5 => have := HR.out.bl.size; simp; omega
      case c6 => simp
      · intro g c1 w1 hown1 hgrow _ hlt1
        have hS := newRel_step HR.out hlt hown1 hgrow
        have e1 := owns_row_ne HO.out HR.out.hd (by decide)
        have q1 : w1.cell? ⟨w.heap.size + 1, 1, none⟩ = some (.slice A k c) := by
          rw [hgrow.cell_far _ (by simp; omega) (fun e => e1 (w.heap.size + 1) e.symm rfl)]
          simp [World.cell?_alloc_lt, g4]
          rw [World.cell?_setCell_other _ _ _ _ (by intro e; injection e with e; omega)]
          exact g1
        have q2 : w1.frozen? ⟨w.heap.size + 1, 1, none⟩ = false := by
          rw [hgrow.frozen_far _ (by simp; omega) (fun e => e1 (w.heap.size + 1) e.symm rfl)]
          rw [World.frozen?_alloc_old _ _ _ (by simp; omega)]
          simpa using g2
        have HS : Hid (NewRel w (w1.setCell ⟨w.heap.size + 1, 1, none⟩ (.slice (some ⟨g, 0, none⟩) (k + 1) c1)) (w.heap.size + 1) w.heap.size n r (k + 1) (some ⟨g, 0, none⟩) c1) := hS
        clear hown1 hgrow hS e1 g0 g1 g2 g3 g4 g5 g6 hlt1
        go_wp2_with fail
        go_roundw
        case rel => exact ⟨k + 1, _, c1, by omega, by go_num, HS.out⟩
        case measure => simp [intOf]; omega
    · have HO : Hid (wr.ownsRow w.heap.size 3 1 (.slice A k c) k ((List.range k).map (newFree n))) := hown
      clear hR hown
      obtain rfl : k = n := by omega
      go_wp2_with fail
      go_ret2
      obtain ⟨g, cap, hv, _, _⟩ := HO.out.form (by omega)
      injection hv with hA _ hc
      subst hA hc
      obtain ⟨hto, hle, hbg, _⟩ := owns_rowTo HO.out
      refine ⟨w.heap.size + 1, w.heap.size, g, c, rfl, ⟨HR.out.hd.congr fun o ho => ?_, HR.out.sl.congr fun o ho => ?_, hto.congr fun j hj => ?_, hle⟩, HR.out.bl, by omega, Nat.le_refl _, hbg⟩
      · simp only [newHead, headF, Sl.new]
      · simp only [newSlot, slotF, Sl.new]
        congr 1
        have hk2 : (Sl.new k r).n = k := rfl
        by_cases q : o % 4 = 0
        · rw [if_pos ⟨q, by omega⟩, if_pos q]
        · rw [if_neg (by omega), if_neg q]
          by_cases q1 : o % 4 = 1
          · rw [if_pos q1]
          · rw [if_neg q1]; simp
      · simp only [newFree, freeF, Sl.new]
        congr 1
        omega
end Go.Proofs.Ytegnbodolkaelaa
