/-
  GvtComes: the walk.
-/
import Derived.Test.YtdommbaljchofaaYJ
import Derived.Test.YtdommbaljchofaaYG
namespace Go.Proofs.Ytdommbaljchofaa
open Go.RowKit Go.Deep
set_option linter.unusedVariables false

theorem made_inv2 {xb n : Nat} {x : XS} {rows : Nat → List Int}
    (h : x.K.map (·.s) = List.replicate n ⟨0, Never, []⟩ ∧ (∀ k ∈ x.K, k.nn = 0) ∧ x.O.map OK.L = (List.range n).map (fun i => inRange (rows i)) ∧ x.l = [] ∧ x.n = n ∧ x.rd = 0 ∧ x.run = false ∧ x.least = 0 ∧ x.time = 0 ∧ x.sent = 0) :
    Inv2 x.ps := by
  obtain ⟨e1, e2, e3, e4, e5, e6, e7, e8, e9, e10⟩ := h
  have h' := Inv2.start n ((List.range n).map (fun i => inRange (rows i))) x.told
  unfold XS.ps
  rw [e1, e3, e4, e5, e6, e7, e8, e9, e10]
  exact h'

set_option maxRecDepth 100000 in
set_option maxHeartbeats 8000000 in
theorem comes_main {w : World} {A A2 : Option Addr} {n m c c2 : Nat} {rows : Nat → List Int} {ps : Nat → PickV} (hn : n ≤ 9223372036854775807) (hm : m ≤ 9223372036854775807) (h : RowsAt w A n rows) (h2 : PicksAt w A2 m ps) (hs : smallB n rows m ps = true) :
    Calls Try.prog 6 #[.slice A n c, .slice A2 m c2] w fun e w' => e = .returned (.bool true) ∧ Below w.heap.size w w' := by
  obtain ⟨hrl, hpl, hn1, hn8, hm2⟩ := small_yes.1 hs
  have HSM : Hid (Calls Try.prog 18 #[.slice A n c, .slice A2 m c2] w fun e w' => e = .returned (.bool true) ∧ w = w') := small_any hn hm h h2 hs
  have HMD := hide (made_any (c := c) (Below.refl _ _) hn1 hn8 h hrl)
  have HRL := hide hrl
  have HPL := hide hpl
  have HP := hide h2
  clear h h2 hs hrl hpl
  go_enter Try.func6, Try.ntmps6
  go_wp2_with fail
  refine Calls.mono (unhide HSM) ?_
  rintro e w' ⟨rfl, rfl⟩
  go_wp2_with fail
  refine Calls.mono (unhide HMD) ?_
  rintro e w1 ⟨xb, x, rfl, hX, hrest⟩
  have hmi := made_inv (W := w) (w' := w1) (xb := xb) hn1 hn8 (unhide HRL) hrest
  have hmi2 := made_inv2 (xb := xb) hrest
  have HX := hide hX
  have HMI := hide hmi
  have HMI2 := hide hmi2
  clear hX hrest hmi hmi2 HSM HMD
  go_wp2_with fail
  go_loopg [6] m (fun g iv wr => ∃ (k : Nat) (x' : XS), k + g = m ∧ iv = .int .i64 k ∧ XAt w wr xb x' ∧ Inv x'.ps ∧ Inv2 x'.ps ∧ Sz x' (8 * k))
  case atStart => exact ⟨0, x, by omega, rfl, unhide HX, (unhide HMI).1, unhide HMI2, (unhide HMI).2.1⟩
  case round =>
    obtain ⟨k, x', hkg, rfl, hX, hI, hI2, hS⟩ := hrel
    have HX' := hide hX
    have HI := hide hI
    have HI2 := hide hI2
    have HS := hide hS
    by_cases hk : k < m
    · obtain ⟨b, off, B, d, rfl, hbl, hp0⟩ := (unhide HP) k hk
      have hp := hp0.below hbl hX.bl
      have hbr : b < wr.heap.size := Nat.lt_of_lt_of_le hbl hX.bl.size
      have HIL := hide hp0.il
      have p0 := hp.c0
      have p1 := hp.c1
      have p2 := hp.c2
      have p3 := hp.c3
      have hll := (unhide HPL) k hk
      obtain ⟨o, ho⟩ : ∃ o, ps k = o := ⟨_, rfl⟩
      rw [ho] at HIL p0 p1 p2 p3 hll
      have g1 : decide (m ≤ k) = false := by simp; omega
      have g2 : decide (k < m) = true := by simp; omega
      clear hX hI hI2 hS hp hp0 ho
      go_wp2_with fail
      refine Calls.mono (step_full (o := o) (c := d) (by omega) (unhide HX') (unhide HI) (unhide HI2) (unhide HS) (unhide HIL) hll) ?_
      rintro e w2 ⟨rfl, x2, hX2, hI2, hJ2, hS2⟩
      have HX2 := hide hX2
      have HJ2 := hide (And.intro hI2 hJ2)
      have HS2 := hide hS2
      clear hX2 hI2 hJ2 hS2 p0 p1 p2 p3
      go_wp2_with fail
      go_roundg (m - (k + 1))
      case measure => omega
      case rel => exact ⟨k + 1, x2, by omega, by go_num, unhide HX2, (unhide HJ2).1, (unhide HJ2).2, (unhide HS2).more (by omega)⟩
    · have g2 : decide (k < m) = false := by simp; omega
      have htodo : todo x'.l ≤ 3200 := by have h1 := todo_le x'.l; have h2 := hS.l; omega
      have HS3 : Hid (Sz x' 1600) := hS.more (by omega)
      clear hX hI hI2 hS
      go_wp2_with fail
      go_loopg [7] 3 (fun g tv wr => ∃ (tn : Nat) (y : XS), tn + g = 3 ∧ tv = .int .i64 tn ∧ XAt w wr xb y ∧ Inv y.ps ∧ Inv2 y.ps ∧ Sz y (1600 + 10100 * tn) ∧ todo y.l ≤ 3200 ∧ (1 ≤ tn → Calm y.ps) ∧ (tn = 3 → y.l = []))
      case atStart => exact ⟨0, x', by omega, rfl, unhide HX', unhide HI, unhide HI2, unhide HS3, htodo, fun h => by omega, fun h => by omega⟩
      case round =>
        obtain ⟨tn, y, htg, rfl, hY, hYI, hYJ, hYS, hYt, hYC, hYl⟩ := hrel
        have HY := hide hY
        have HYI := hide (And.intro hYI hYJ)
        have HYS := hide hYS
        have HYC := hide hYC
        by_cases ht : tn < 3
        · have t1 : decide ((tn : Int) < 3) = true := by simp; omega
          clear hY hYI hYJ hYS hYC hYl
          go_wp2_with fail
          go_loopg [8] (todo y.l) (fun g iv wr => ∃ (i : Nat) (z : XS), g = todo z.l ∧ iv = .int .i64 i ∧ XAt w wr xb z ∧ Inv z.ps ∧ Inv2 z.ps ∧ Sz z (1600 + 10100 * tn + i) ∧ todo z.l + i ≤ 3200 ∧ (1 ≤ tn → Calm z.ps))
          case atStart => exact ⟨0, y, rfl, rfl, unhide HY, (unhide HYI).1, (unhide HYI).2, unhide HYS, by omega, unhide HYC⟩
          case round =>
            obtain ⟨i, z, rfl, rfl, hZ, hZI, hZJ, hZS, hZt, hZC⟩ := hrel
            have HZ := hide hZ
            have HZI := hide (And.intro hZI hZJ)
            have HZS := hide hZS
            have HZC := hide hZC
            have c2' := hZ.c2
            have c3' := hZ.c3
            have c5' := hZ.c5
            have zlt := hZ.lt
            have i1 : decide ((i : Int) < 10000) = true := by simp; omega
            by_cases hzl : z.l = []
            · have hst := hZI.still hZJ hzl
              have HST := hide hst
              have hrun : z.run = false := hst.1
              rw [hzl] at c2'
              have HZL := hide hzl
              have HM24 : Hid (Calls Try.prog 24 #[.pointer (some ⟨z.qb, 0, none⟩)] wr fun e w' => e = .returned (.bool false) ∧ wr = w') := by
                have h' := running_any hZ.ma
                rw [hrun] at h'
                exact h'
              clear hZ hZI hZJ hZS hZC hzl hst hrun
              go_wp2_with fail
              refine Calls.mono (unhide HM24) ?_
              rintro e w3 ⟨rfl, rfl⟩
              by_cases ht2 : tn < 2
              · have t2 : decide ((tn : Int) < 2) = true := by simp; omega
                go_wp2_with fail
                refine Calls.mono (begin_full (by omega) (unhide HZ) (unhide HZI).1 (unhide HZI).2 (unhide HZS)) ?_
                rintro e w4 ⟨rfl, x4, hX4, hI4, hJ4, hS4, hC4⟩
                have HX4 := hide hX4
                have HI4 := hide (And.intro hI4 hJ4)
                have HS4 := hide hS4
                have HC4 := hide (hC4 (unhide HZL))
                clear hX4 hI4 hJ4 hS4 hC4
                go_wp2_with fail
                go_roundg (3 - (tn + 1))
                case measure => omega
                case rel => exact ⟨tn + 1, x4, by omega, by go_num, unhide HX4, (unhide HI4).1, (unhide HI4).2, (unhide HS4).more (by omega), by have := (unhide HC4).1; omega, fun _ => (unhide HC4).2, fun h => by omega⟩
              · have t2 : decide ((tn : Int) < 2) = false := by simp; omega
                go_wp2_with fail
                go_roundg (3 - (tn + 1))
                case measure => omega
                case rel => exact ⟨tn + 1, z, by omega, by go_num, unhide HZ, (unhide HZI).1, (unhide HZI).2, (unhide HZS).more (by omega), by omega, fun _ => (unhide HZC) (by omega), fun _ => unhide HZL⟩
            · have hzp : 0 < z.l.length := List.length_pos_iff.2 hzl
              have i2 : decide (0 < z.l.length) = true := by simpa using hzp
              have i3 : decide ((0 : Int) < (z.l.length : Int)) = true := by simp; omega
              have HZL := hide hzl
              clear hZ hZI hZJ hZS hZC hzl c3' c5'
              go_wp2_with fail
              refine Calls.mono (comes_full (which := 0) (by omega) (unhide HZ) (unhide HZI).1 (unhide HZI).2 (unhide HZS)) ?_
              rintro e w4 ⟨rfl, x4, hX4, hI4, hJ4, hS4, hT4, _, hC4⟩
              have hT := hT4 (unhide HZL)
              have HX4 := hide hX4
              have HI4 := hide (And.intro hI4 hJ4)
              have HS4 := hide hS4
              have HC4 := hide hC4
              clear hX4 hI4 hJ4 hS4 hC4 hT4
              go_wp2_with fail
              go_roundg (todo x4.l)
              case measure => omega
              case rel => exact ⟨i + 1, x4, rfl, by go_num, unhide HX4, (unhide HI4).1, (unhide HI4).2, (unhide HS4).more (by omega), by omega, fun h => (unhide HC4) ((unhide HZC) h)⟩
        · have t1 : decide ((tn : Int) < 3) = false := by simp; omega
          have htn : tn = 3 := by omega
          have hl := hYl htn
          have hst := hYI.still hYJ hl
          have hcalm := hYC (by omega)
          have htime := hcalm.done hst.1
          have HST := hide hst
          have HL := hide hl
          have hkl := hYI.kl
          have hol := hYI.ol
          have h8 := hYI.n8
          simp only [XS.ps] at htime h8
          have HLX : Hid (leastX (y.O.map OK.L) y.l = y.time) := by
            show leastX (y.O.map OK.L) y.l = y.time
            rw [hl, htime]
            rfl
          have hK8 : y.K.length ≤ 8 := by omega
          clear hY hYI hYJ hYS hYC hYl hl hst hcalm htime htn
          go_wp2_with fail
          go_loopg [9] y.K.length (fun g iv wr => ∃ i : Nat, i + g = y.K.length ∧ iv = .int .i64 i ∧ XAt w wr xb y)
          case atStart => exact ⟨0, by omega, rfl, unhide HY⟩
          case round =>
            obtain ⟨i, hig, rfl, hZ⟩ := hrel
            have HZ := hide hZ
            have c0' := hZ.c0
            have zlt := hZ.lt
            by_cases hiK : i < y.K.length
            · obtain ⟨k, hk⟩ := some_of_lt hiK
              obtain ⟨gk, hkv, hgkl, hkc⟩ := hZ.atK hk
              rw [hkv] at c0'
              have hka := hZ.ka k (List.mem_of_getElem? hk)
              have hM : k.s.M = [] := ((unhide HST).2 i k.s (ps_w hk)).1
              have HC : Hid (Calls Try.prog 13 #[.pointer (some ⟨k.wb, 0, none⟩)] wr fun e w' => e = .returned (.tuple #[.int .i64 0, .int .i64 1073741825]) ∧ Only [] wr w') := by
                have h' := open_any hka
                rw [hM] at h'
                exact h'
              obtain ⟨nK, hnK⟩ : ∃ nK, y.K.length = nK := ⟨_, rfl⟩
              rw [hnK] at c0' hiK hig hK8
              have HNK := hide hnK
              have g1 : decide (nK ≤ i) = false := by simp; omega
              have g2' : decide (i < nK) = true := by simp; omega
              clear hZ hka hM hnK
              go_wp2_with fail
              refine Calls.mono (unhide HC) ?_
              rintro e w5 ⟨rfl, hO5⟩
              have HZ5 := hide ((unhide HZ).quiet hO5)
              clear hO5 c0' hkc
              go_wp2_with fail
              go_roundg (nK - (i + 1))
              case measure => omega
              case rel => exact ⟨i + 1, by rw [unhide HNK]; omega, by go_num, unhide HZ5⟩
            · have g2' : decide (i < y.K.length) = false := by simp; omega
              have c3' := hZ.c3
              obtain ⟨T, hT⟩ : ∃ T, y.time = T := ⟨_, rfl⟩
              have HM21 : Hid (Calls Try.prog 21 #[.pointer (some ⟨y.qb, 0, none⟩)] wr fun e w' => e = .returned (.int .i64 T) ∧ wr = w') := by
                have h' := mtime_any hZ.ma
                rw [hT] at h'
                exact h'
              have HC22 : Hid (Calls Try.prog 22 #[.pointer (some ⟨xb, 0, none⟩)] wr fun e w' => e = .returned (.int .i64 T) ∧ wr = w') := by
                have h' := least_any hZ (by omega) (fun o ho => by have := (unhide HYS).o o ho; omega) (by have := (unhide HYS).l; omega)
                rw [unhide HLX, hT] at h'
                exact h'
              have t3 : (T == T) = true := by simp
              clear hZ hT
              go_wp2_with fail
              refine Calls.mono (unhide HM21) ?_
              rintro e w5 ⟨rfl, rfl⟩
              go_wp2_with fail
              refine Calls.mono (unhide HC22) ?_
              rintro e w5 ⟨rfl, rfl⟩
              go_wp2_with fail
              refine (awake_any _).mono ?_
              rintro e w3 ⟨rfl, hb3⟩
              have HB3 := hide hb3
              clear hb3
              go_wp2_with fail
              go_ret
              exact ⟨rfl, (unhide HZ).bl.trans ((unhide HB3).mono (unhide HZ).bl.size)⟩

set_option maxRecDepth 100000 in
set_option maxHeartbeats 4000000 in
theorem comes_big {w : World} {A A2 : Option Addr} {n m c c2 : Nat} {rows : Nat → List Int} {ps : Nat → PickV} (hn : n ≤ 9223372036854775807) (hm : m ≤ 9223372036854775807) (h : RowsAt w A n rows) (h2 : PicksAt w A2 m ps) (hs : smallB n rows m ps = false) :
    Calls Try.prog 6 #[.slice A n c, .slice A2 m c2] w fun e w' => e = .returned (.bool true) ∧ Below w.heap.size w w' := by
  have HSM : Hid (Calls Try.prog 18 #[.slice A n c, .slice A2 m c2] w fun e w' => e = .returned (.bool false) ∧ w = w') := small_any hn hm h h2 hs
  clear h h2 hs
  go_enter Try.func6, Try.ntmps6
  go_wp2_with fail
  refine Calls.mono (unhide HSM) ?_
  rintro e w' ⟨rfl, rfl⟩
  go_wp2_with fail
  refine (awake_any _).mono ?_
  rintro e w3 ⟨rfl, hb3⟩
  have HB3 := hide hb3
  clear hb3
  go_wp2_with fail
  go_ret
  exact ⟨rfl, unhide HB3⟩

theorem comes_walk {w : World} {A A2 : Option Addr} {n m c c2 : Nat} {rows : Nat → List Int} {ps : Nat → PickV} (hn : n ≤ 9223372036854775807) (hm : m ≤ 9223372036854775807) (h : RowsAt w A n rows) (h2 : PicksAt w A2 m ps) :
    Calls Try.prog 6 #[.slice A n c, .slice A2 m c2] w fun e w' => e = .returned (.bool true) ∧ Below w.heap.size w w' := by
  cases hs : smallB n rows m ps with
  | true => exact comes_main hn hm h h2 hs
  | false => exact comes_big hn hm h h2 hs
end Go.Proofs.Ytdommbaljchofaa
