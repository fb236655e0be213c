/-
  May: what is wrong with an instruction.
-/
import Derived.Test.YtipllcepoijbiaaDoorB
import Derived.Deep.WholeRow
namespace Go.Proofs.YtipllcepoijbiaaDoor
open Go.RowKit Go.Deep
set_option linter.unusedVariables false

theorem Only.newCell {w w' : World} {c : Array Value} {t : TypeId} (k : Only [] (w.alloc (.cells c t)) w') (j : Nat) {v : Value} (h : c[j]? = some v) : w'.cell? ⟨w.heap.size, j, none⟩ = some v := by
  rw [k.cell (p := ⟨w.heap.size, j, none⟩) (by simp) (by simp), cell_of_row _ _ j c t (0, 0) (heap_alloc_last w _)]
  exact h
theorem Only.newLt {w w' : World} {o : Obj} (k : Only [] (w.alloc o) w') : w.heap.size < w'.heap.size := Nat.lt_of_lt_of_le (by simp) k.size

/-- An instruction: its op, and four numbers. -/
structure I where
  o : Int
  a : Int
  b : Int
  c : Int
  d : Int
def I.n (x : I) (j : Nat) : Int := if j = 0 then x.a else if j = 1 then x.b else if j = 2 then x.c else x.d
def I.vs (x : I) : Array Value := #[.int .i64 x.o, .int .i64 x.a, .int .i64 x.b, .int .i64 x.c, .int .i64 x.d]
/-- Is a number as its op's shape says? -/
def goodB (L : List UInt8) (many : Int) (n : Nat → Int) (j : Nat) : Bool := if j < L.length then rightB ((L.getD j 0).toNat : Int) (n j) many else decide (n j = 0)
def allB (L : List UInt8) (many : Int) (n : Nat → Int) : Bool := goodB L many n 0 && goodB L many n 1 && goodB L many n 2 && goodB L many n 3
def mayV (x : I) (many : Int) : Int := if x.o < 1 ∨ 15 < x.o then 15 else if allB (kindsL x.o.toNat) many x.n = true then 0 else 10

theorem good_in {op : Nat} {many : Int} {n : Nat → Int} {j : Nat} (h : j < (kindsS op).size) : goodB (kindsL op) many n j = rightB (((kindsS op)[j]'h).toNat : Int) (n j) many := by
  have h' : j < (kindsL op).length := by simpa [kindsS, ByteArray.size] using h
  have e : (kindsS op)[j]'h = (kindsL op)[j]'h' := rfl
  rw [e]
  simp [goodB, h', List.getD]
theorem good_out {op : Nat} {many : Int} {n : Nat → Int} {j : Nat} (h : ¬ j < (kindsS op).size) : goodB (kindsL op) many n j = decide (n j = 0) := by
  have h' : ¬ j < (kindsL op).length := by simpa [kindsS, ByteArray.size] using h
  simp [goodB, h']
theorem all_of {L : List UInt8} {many : Int} {n : Nat → Int} (h : ∀ q, q < 4 → goodB L many n q = true) : allB L many n = true := by
  simp [allB, h 0 (by omega), h 1 (by omega), h 2 (by omega), h 3 (by omega)]
theorem all_not {L : List UInt8} {many : Int} {n : Nat → Int} {q : Nat} (hq : q < 4) (h : goodB L many n q = false) : ¬ allB L many n = true := by
  rcases (by omega : q = 0 ∨ q = 1 ∨ q = 2 ∨ q = 3) with rfl | rfl | rfl | rfl <;> simp [allB, h]

set_option maxHeartbeats 2000000 in
theorem may_any {w : World} {x : I} {many : Int} (hT : TabAt w) : Calls Tryd.prog 12 #[.agg x.vs, .int .i64 many] w fun e w' => e = .returned (.int .i64 (mayV x many)) ∧ Only [] w w' := by
  obtain ⟨o, a, b, c, d⟩ := x
  by_cases hb : o < 1 ∨ 15 < o
  · have e : mayV ⟨o, a, b, c, d⟩ many = 15 := by simp only [mayV]; rw [if_pos hb]
    rw [e]
    clear e
    simp only [I.vs]
    have HB := hide hb
    clear hb hT
    go_enter Tryd.func12, Tryd.ntmps12
    go_wp2_with fail
    refine (of_bad (unhide HB)).mono ?_
    rintro _ w' ⟨rfl, k⟩
    have K := hide k
    clear k
    go_wp2_with fail
    go_ret
    exact ⟨rfl, (((Only.refl _ _).alloc _).trans (unhide K)).alloc _⟩
  · obtain ⟨op, rfl⟩ : ∃ k : Nat, o = k := ⟨o.toNat, by omega⟩
    have h1 : 1 ≤ op := by omega
    have h2 : op ≤ 15 := by omega
    obtain ⟨r, hr⟩ : ∃ r, mayV ⟨op, a, b, c, d⟩ many = r := ⟨_, rfl⟩
    rw [hr]
    have hr2 : r = if allB (kindsL op) many (I.n ⟨op, a, b, c, d⟩) = true then 0 else 10 := by
      rw [← hr]; simp only [mayV]; rw [if_neg hb]; rfl
    have HR := hide hr2
    simp only [I.vs]
    have HOF := hide (of_ok (hT.only ((Only.refl [] w).alloc (.cells #[.int .i64 op, .int .i64 a, .int .i64 b, .int .i64 c, .int .i64 d] 33)) (by simp)) h1 h2)
    clear hb hT hr hr2 h1 h2
    go_enter Tryd.func12, Tryd.ntmps12
    go_wp2_with fail
    refine (unhide HOF).mono ?_
    rintro _ w' ⟨wd, rfl, k⟩
    have K := hide k
    have c0 := k.newCell 0 rfl
    have c1 := k.newCell 1 rfl
    have c2 := k.newCell 2 rfl
    have c3 := k.newCell 3 rfl
    have c4 := k.newCell 4 rfl
    have hlt := k.newLt
    clear k
    have hgi := fun j => @good_in op many (I.n ⟨op, a, b, c, d⟩) j
    have hgo := fun j => @good_out op many (I.n ⟨op, a, b, c, d⟩) j
    generalize kindsS op = ks at *
    have HGI := hide hgi
    have HGO := hide hgo
    clear hgi hgo
    go_wp2_with fail
    refine numbers_any.mono ?_
    rintro _ w'' ⟨rfl, k⟩
    have K2 := hide k
    have d1 := k.newCell 1 rfl
    clear k c0 c1 c2 c3 c4
    go_wp2_with fail
    go_loopg [19] 4 (fun g i wr => ∃ j : Nat, j + g = 4 ∧ i = .int .i64 j ∧ w'' = wr ∧ ∀ q, q < j → goodB (kindsL op) many (I.n ⟨op, a, b, c, d⟩) q = true)
    case atStart => exact ⟨0, by omega, rfl, rfl, fun q hq => absurd hq (by omega)⟩
    case round =>
      obtain ⟨j, hjg, rfl, rfl, hall⟩ := hrel
      have HA := hide hall
      clear hall
      by_cases hj : j < 4
      · obtain ⟨x, hx⟩ : ∃ x, I.n ⟨op, a, b, c, d⟩ j = x := ⟨_, rfl⟩
        have hidx : ∀ w1 : World, (Instr.index 23 (.agg #[.int .i64 a, .int .i64 b, .int .i64 c, .int .i64 d]) (.int .i64 (j : Int))).run Tryd.prog w1 = .ok (.int .i64 x) w1 := by
          intro w1
          rw [← hx]
          rcases (by omega : j = 0 ∨ j = 1 ∨ j = 2 ∨ j = 3) with rfl | rfl | rfl | rfl <;> simp [Instr.index, I.n, go_sem]
        have HX := hide hx
        clear hx
        have g0 : decide ((j : Int) < 4) = true := by simp; omega
        by_cases hlen : j < ks.size
        · have g1 : decide (ks.size ≤ j) = false := by simp; omega
          have g2 : decide (j < ks.size) = true := by simp; omega
          have hgd := (unhide HGI) j hlen
          have HGD := hide hgd
          clear hgd
          go_wp2_with fail
          refine right_any.mono ?_
          rintro _ wr ⟨rfl, rfl⟩
          generalize hrb : rightB (ks[j].toNat : Int) x many = rb
          have HRB := hide hrb
          clear hrb
          cases rb
          · go_wp2_with fail
            go_ret
            refine ⟨?_, ?_⟩
            · rw [unhide HR, if_neg (all_not hj (by rw [unhide HGD, unhide HX]; exact unhide HRB))]
              rfl
            · exact ((((Only.refl _ _).alloc _).trans (unhide K)).alloc _).trans (unhide K2)
          · go_wp2_with fail
            go_roundg (4 - (j + 1))
            case measure => omega
            case rel =>
              refine ⟨j + 1, by omega, by go_num, rfl, fun q hq => ?_⟩
              by_cases e : q = j
              · subst e; rw [unhide HGD, unhide HX]; exact unhide HRB
              · exact (unhide HA) q (by omega)
        · have g1 : decide (ks.size ≤ j) = true := by simp; omega
          have g2 : decide (j < ks.size) = false := by simp; omega
          have hgd := (unhide HGO) j hlen
          have HGD := hide hgd
          clear hgd
          by_cases h0 : x = 0
          · have g3 : (x == 0) = true := by simpa using h0
            have H0 := hide h0
            clear h0
            go_wp2_with fail
            go_roundg (4 - (j + 1))
            case measure => omega
            case rel =>
              refine ⟨j + 1, by omega, by go_num, rfl, fun q hq => ?_⟩
              by_cases e : q = j
              · subst e; rw [unhide HGD, unhide HX]; simpa using unhide H0
              · exact (unhide HA) q (by omega)
          · have g3 : (x == 0) = false := by simpa using h0
            have H0 := hide h0
            clear h0
            go_wp2_with fail
            go_ret
            refine ⟨?_, ?_⟩
            · rw [unhide HR, if_neg (all_not hj (by rw [unhide HGD, unhide HX]; simpa using unhide H0))]
              rfl
            · exact ((((Only.refl _ _).alloc _).trans (unhide K)).alloc _).trans (unhide K2)
      · have g2 : decide ((j : Int) < 4) = false := by simp; omega
        go_wp2_with fail
        go_ret
        refine ⟨?_, ?_⟩
        · rw [unhide HR, if_pos (all_of (fun q hq => (unhide HA) q (by omega)))]
          rfl
        · exact ((((Only.refl _ _).alloc _).trans (unhide K)).alloc _).trans (unhide K2)
end Go.Proofs.YtipllcepoijbiaaDoor
