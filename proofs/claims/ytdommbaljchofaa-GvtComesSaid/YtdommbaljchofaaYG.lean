/-
  GvtBelow: the walk.
-/
import Derived.Test.YtdommbaljchofaaYF
import Derived.Test.YtdommbaljchofaaXR
import Derived.Test.YtdommbaljchofaaA
namespace Go.Proofs.Ytdommbaljchofaa
open Go.RowKit Go.Deep
set_option linter.unusedVariables false

theorem inRange_ok (L : List Int) : ∀ t ∈ inRange L, 0 ≤ t ∧ t ≤ 1073741824 := by
  intro t ht
  have h := (List.mem_filter.1 ht).2
  simpa [okTime] using h
theorem made_inv {W w' : World} {xb n : Nat} {x : XS} {rows : Nat → List Int} (h1 : 1 ≤ n) (h2 : n ≤ 8) (hrl : ∀ i < n, (rows i).length ≤ 20)
    (h : x.K.map (·.s) = List.replicate n ⟨0, Never, []⟩ ∧ (∀ k ∈ x.K, k.nn = 0) ∧ x.O.map OK.L = (List.range n).map (fun i => inRange (rows i)) ∧ x.l = [] ∧ x.n = n ∧ x.rd = 0 ∧ x.run = false ∧ x.least = 0 ∧ x.time = 0 ∧ x.sent = 0) :
    Inv x.ps ∧ Sz x 0 ∧ x.time = 0 := by
  obtain ⟨e1, e2, e3, e4, e5, e6, e7, e8, e9, e10⟩ := h
  have hO : ∀ L ∈ (List.range n).map (fun i => inRange (rows i)), ∃ i, i < n ∧ L = inRange (rows i) := by
    intro L hL
    obtain ⟨i, hi, rfl⟩ := List.mem_map.1 hL
    exact ⟨i, List.mem_range.1 hi, rfl⟩
  refine ⟨?_, ⟨by rw [e4]; simp, fun k hk => by rw [e2 k hk]; omega, fun o ho => ?_, by rw [e10]; simp, by rw [e6]; simp⟩, e9⟩
  · have h' := Inv.start (n := n) (O := (List.range n).map (fun i => inRange (rows i))) h1 h2 (by simp) (fun L hL t ht => by
      obtain ⟨i, _, rfl⟩ := hO L hL
      exact inRange_ok _ t ht) x.told
    unfold XS.ps
    rw [e1, e3, e4, e5, e6, e7, e8, e9, e10]
    exact h'
  · have hm : o.L ∈ x.O.map OK.L := List.mem_map_of_mem (f := OK.L) ho
    rw [e3] at hm
    obtain ⟨i, hi, e⟩ := hO _ hm
    rw [e]
    have h3 := List.length_filter_le okTime (rows i)
    have h4 := hrl i hi
    unfold inRange
    omega

set_option maxRecDepth 100000 in
set_option maxHeartbeats 4000000 in
theorem below_main {w : World} {A A2 : Option Addr} {n m c c2 : Nat} {rows : Nat → List Int} {ps : Nat → PickV} (hn : n ≤ 9223372036854775807) (hm : m ≤ 9223372036854775807) (h : RowsAt w A n rows) (h2 : PicksAt w A2 m ps) (hs : smallB n rows m ps = true) :
    Calls Try.prog 5 #[.slice A n c, .slice A2 m c2] w fun e w' => e = .returned (.bool true) ∧ Below w.heap.size w w' := by
  obtain ⟨hrl, hpl, hn1, hn8, hm2⟩ := small_yes.1 hs
  have HSM : Hid (Calls Try.prog 18 #[.slice A n c, .slice A2 m c2] w fun e w' => e = .returned (.bool true) ∧ w = w') := small_any hn hm h h2 hs
  have HMD := hide (made_any (c := c) (Below.refl _ _) hn1 hn8 h hrl)
  have HRL := hide hrl
  have HPL := hide hpl
  have HP := hide h2
  clear h h2 hs hrl hpl
  go_enter Try.func5, Try.ntmps5
  go_wp2_with fail
  refine Calls.mono (unhide HSM) ?_
  rintro e w' ⟨rfl, rfl⟩
  go_wp2_with fail
  refine Calls.mono (unhide HMD) ?_
  rintro e w1 ⟨xb, x, rfl, hX, hrest⟩
  have hmi := made_inv (W := w) (w' := w1) (xb := xb) hn1 hn8 (unhide HRL) hrest
  have HX := hide hX
  have HMI := hide hmi
  clear hX hrest hmi HSM HMD
  go_wp2_with fail
  go_loopg [6, 7] m (fun g wv iv wr => ∃ (k : Nat) (x' : XS) (t : Int), k + g = m ∧ iv = .int .i64 k ∧ wv = .int .i64 t ∧ XAt w wr xb x' ∧ Inv x'.ps ∧ Sz x' (8 * k) ∧ t ≤ x'.time)
  case atStart => exact ⟨0, x, 0, by omega, rfl, rfl, unhide HX, (unhide HMI).1, (unhide HMI).2.1, by rw [(unhide HMI).2.2]; omega⟩
  case round =>
    obtain ⟨k, x', t, hkg, rfl, rfl, hX, hI, hS, ht⟩ := hrel
    have HX' := hide hX
    have HI := hide hI
    have HS := hide hS
    by_cases hk : k < m
    · obtain ⟨b, off, B, d, rfl, hbl, hp0⟩ := (unhide HP) k hk
      have hp := hp0.below hbl hX.bl
      have hbr : b < wr.heap.size := Nat.lt_of_lt_of_le hbl hX.bl.size
      have HIL := hide hp0.il
      have p0 := hp.c0
      have p1 := hp.c1
      have p2 := hp.c2
      have p3 := hp.c3
      have hll := (unhide HPL) k hk
      obtain ⟨o, ho⟩ : ∃ o, ps k = o := ⟨_, rfl⟩
      rw [ho] at HIL p0 p1 p2 p3 hll
      have g1 : decide (m ≤ k) = false := by simp; omega
      have g2 : decide (k < m) = true := by simp; omega
      clear hX hI hS hp hp0 ho
      go_wp2_with fail
      refine Calls.mono (step_inv (o := o) (c := d) (by omega) (unhide HX') (unhide HI) (unhide HS) (unhide HIL) hll) ?_
      rintro e w2 ⟨rfl, x2, hX2, hI2, hS2, ht2⟩
      have HX2 := hide hX2
      have HI2 := hide hI2
      have HS2 := hide hS2
      have hle := hI2.below
      have hol := hI2.ol
      have h8 := hI2.n8
      simp only [XS.ps] at hle h8
      obtain ⟨lx, hlx⟩ : ∃ lx, leastX (x2.O.map OK.L) x2.l = lx := ⟨_, rfl⟩
      have HC22 : Hid (Calls Try.prog 22 #[.pointer (some ⟨xb, 0, none⟩)] w2 fun e w' => e = .returned (.int .i64 lx) ∧ w2 = w') := by
        have h' := least_any hX2 (by omega) (fun o ho => by have := hS2.o o ho; omega) (by have := hS2.l; omega)
        rw [hlx] at h'
        exact h'
      rw [hlx] at hle
      have r3 := hX2.c3
      have r5 := hX2.c5
      have rl := hX2.lt
      obtain ⟨t2, htt⟩ : ∃ t2, x2.time = t2 := ⟨_, rfl⟩
      have HM21 : Hid (Calls Try.prog 21 #[.pointer (some ⟨x2.qb, 0, none⟩)] w2 fun e w' => e = .returned (.int .i64 t2) ∧ w2 = w') := by
        have h' := mtime_any hX2.ma
        rw [htt] at h'
        exact h'
      rw [htt] at hle ht2
      have d1 : decide (t2 < t) = false := by simp; omega
      have d2 : decide (lx < t2) = false := by simp; omega
      have HTT := hide htt
      clear hX2 hI2 hS2 hlx p0 p1 p2 p3 htt
      go_wp2_with fail
      refine Calls.mono (unhide HM21) ?_
      rintro e w3 ⟨rfl, rfl⟩
      go_wp2_with (go_at_call 22; refine Calls.mono (unhide HC22) ?_; rintro e w3 ⟨rfl, rfl⟩)
      go_roundg (m - (k + 1))
      case measure => omega
      case rel => exact ⟨k + 1, x2, t2, by omega, by go_num, rfl, unhide HX2, unhide HI2, (unhide HS2).more (by omega), by rw [unhide HTT]; exact Int.le_refl _⟩
    · have g2 : decide (k < m) = false := by simp; omega
      clear hX hI hS
      go_wp2_with fail
      refine (awake_any _).mono ?_
      rintro e w3 ⟨rfl, hb3⟩
      have HB3 := hide hb3
      clear hb3
      go_wp2_with fail
      go_ret
      exact ⟨rfl, (unhide HX').bl.trans ((unhide HB3).mono (unhide HX').bl.size)⟩

set_option maxRecDepth 100000 in
set_option maxHeartbeats 4000000 in
theorem below_big {w : World} {A A2 : Option Addr} {n m c c2 : Nat} {rows : Nat → List Int} {ps : Nat → PickV} (hn : n ≤ 9223372036854775807) (hm : m ≤ 9223372036854775807) (h : RowsAt w A n rows) (h2 : PicksAt w A2 m ps) (hs : smallB n rows m ps = false) :
    Calls Try.prog 5 #[.slice A n c, .slice A2 m c2] w fun e w' => e = .returned (.bool true) ∧ Below w.heap.size w w' := by
  have HSM : Hid (Calls Try.prog 18 #[.slice A n c, .slice A2 m c2] w fun e w' => e = .returned (.bool false) ∧ w = w') := small_any hn hm h h2 hs
  clear h h2 hs
  go_enter Try.func5, Try.ntmps5
  go_wp2_with fail
  refine Calls.mono (unhide HSM) ?_
  rintro e w' ⟨rfl, rfl⟩
  go_wp2_with fail
  refine (awake_any _).mono ?_
  rintro e w3 ⟨rfl, hb3⟩
  have HB3 := hide hb3
  clear hb3
  go_wp2_with fail
  go_ret
  exact ⟨rfl, unhide HB3⟩

theorem below_walk {w : World} {A A2 : Option Addr} {n m c c2 : Nat} {rows : Nat → List Int} {ps : Nat → PickV} (hn : n ≤ 9223372036854775807) (hm : m ≤ 9223372036854775807) (h : RowsAt w A n rows) (h2 : PicksAt w A2 m ps) :
    Calls Try.prog 5 #[.slice A n c, .slice A2 m c2] w fun e w' => e = .returned (.bool true) ∧ Below w.heap.size w w' := by
  cases hs : smallB n rows m ps with
  | true => exact below_main hn hm h h2 hs
  | false => exact below_big hn hm h h2 hs
end Go.Proofs.Ytdommbaljchofaa
