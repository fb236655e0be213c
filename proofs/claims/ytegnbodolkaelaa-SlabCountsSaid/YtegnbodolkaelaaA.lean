/-
  The contracts of boomeranglaw01.awake and few.
-/
import Derived.Test.YtegnbodolkaelaaN
namespace Go.Proofs.Ytegnbodolkaelaa
open Go.RowKit Go.Deep
set_option linter.unusedVariables false

def q0 : Sl := Sl.new 3 1
def q1 : Sl := q0.taken 1 5
def q2 : Sl := q1.taken 3 6
def q3 : Sl := q2.taken 4 7
def q4 : Sl := q3.freed 0
def q5 : Sl := q4.taken 1 8
theorem inv0 : q0.Inv := Sl.Inv.new 1 (by omega) (by omega)
theorem inv1 : q1.Inv := inv0.taken 1 5 (by omega) (by omega) (by decide)
theorem inv2 : q2.Inv := inv1.taken 3 6 (by omega) (by omega) (by decide)
theorem inv3 : q3.Inv := inv2.taken 4 7 (by omega) (by omega) (by decide)
theorem inv4 : q4.Inv := inv3.freed 0 (by decide) (by decide) (by decide)
theorem inv5 : q5.Inv := inv4.taken 1 8 (by omega) (by omega) (by decide)
theorem bd0 : q0.Bd 0 := Sl.Bd.new 3 1
theorem bd1 : q1.Bd 1 := bd0.taken 1 5
theorem bd2 : q2.Bd 2 := bd1.taken 3 6
theorem bd3 : q3.Bd 3 := bd2.taken 4 7
theorem bd4 : q4.Bd 4 := bd3.freed 0
theorem bd5 : q5.Bd 5 := bd4.taken 1 8

section
variable {w : World} {sb lb fb cap : Nat}
theorem aw1 (h : At w sb lb fb cap q0) : Calls Try.prog 9 #[.pointer (some ⟨sb, 0, none⟩), .int .i64 1, .bool false, .int .i64 5] w fun e w' =>
    e = .returned (.tuple #[.agg #[.int .i64 0, .int .i64 1], .int .i64 0]) ∧ At w' sb lb fb cap q1 ∧ Only [sb, lb, fb] w w' :=
  take_ok (k := 1) (v := 5) (u := false) h inv0 bd0 (by omega) (by omega) (by omega) (by decide) (.inr (by decide))
theorem aw2 (h : At w sb lb fb cap q1) : Calls Try.prog 9 #[.pointer (some ⟨sb, 0, none⟩), .int .i64 3, .bool false, .int .i64 6] w fun e w' =>
    e = .returned (.tuple #[.agg #[.int .i64 1, .int .i64 1], .int .i64 0]) ∧ At w' sb lb fb cap q2 ∧ Only [sb, lb, fb] w w' :=
  take_ok (k := 3) (v := 6) (u := false) h inv1 bd1 (by omega) (by omega) (by omega) (by decide) (.inr (by decide))
theorem aw3 (h : At w sb lb fb cap q2) : Calls Try.prog 9 #[.pointer (some ⟨sb, 0, none⟩), .int .i64 1, .bool false, .int .i64 7] w fun e w' =>
    e = .returned (.tuple #[.agg #[.int .i64 0, .int .i64 0], .int .i64 11]) ∧ Only [] w w' :=
  take_full h (by omega) (by omega) (.inr ⟨rfl, by decide⟩)
theorem aw4 (h : At w sb lb fb cap q2) : Calls Try.prog 9 #[.pointer (some ⟨sb, 0, none⟩), .int .i64 4, .bool true, .int .i64 7] w fun e w' =>
    e = .returned (.tuple #[.agg #[.int .i64 2, .int .i64 1], .int .i64 0]) ∧ At w' sb lb fb cap q3 ∧ Only [sb, lb, fb] w w' :=
  take_ok (k := 4) (v := 7) (u := true) h inv2 bd2 (by omega) (by omega) (by omega) (by decide) (.inl rfl)
theorem aw5 (h : At w sb lb fb cap q3) : Calls Try.prog 10 #[.pointer (some ⟨sb, 0, none⟩), .agg #[.int .i64 0, .int .i64 1]] w fun e w' =>
    e = .returned (.tuple #[.int .i64 5, .int .i64 0]) ∧ At w' sb lb fb cap q4 ∧ Only [sb, lb, fb] w w' :=
  free_ok (i := 0) (k := 1) h (by decide) bd3 (by omega) (by decide) (by decide) (by omega) (by omega) (by decide)
theorem aw6 (h : At w sb lb fb cap q4) : Calls Try.prog 9 #[.pointer (some ⟨sb, 0, none⟩), .int .i64 1, .bool true, .int .i64 8] w fun e w' =>
    e = .returned (.tuple #[.agg #[.int .i64 0, .int .i64 2], .int .i64 0]) ∧ At w' sb lb fb cap q5 ∧ Only [sb, lb, fb] w w' :=
  take_ok (k := 1) (v := 8) (u := true) h inv4 bd4 (by omega) (by omega) (by omega) (by decide) (.inl rfl)
theorem aw7 (h : At w sb lb fb cap q5) : Calls Try.prog 13 #[.pointer (some ⟨sb, 0, none⟩), .agg #[.int .i64 0, .int .i64 1]] w fun e w' =>
    e = .returned (.tuple #[.int .i64 0, .int .i64 12]) ∧ Only [] w w' :=
  get_stale h (by decide) (.inr ⟨by omega, by decide, .inr (by decide)⟩)
theorem aw8 (h : At w sb lb fb cap q5) : Calls Try.prog 11 #[.pointer (some ⟨sb, 0, none⟩), .slice none 0 0] w fun e w' => e = .returned (.int .i64 3) ∧ w = w' :=
  live_all h inv5 bd5 (by omega)
end

/-- A local handle's block. -/
def hF (x y : Int) (o : Nat) : Value := .int .i64 (if o = 0 then x else y)
theorem hF_new (w : World) (x y : Int) : (w.alloc (.cells #[.int .i64 x, .int .i64 y] 32)).rowIs w.heap.size 32 2 (hF x y) := by
  have h := World.rowIs_alloc w #[.int .i64 x, .int .i64 y] 32 (hF x y) (by
    intro i hi
    simp at hi
    rcases (show i = 0 ∨ i = 1 by omega) with rfl | rfl <;> rfl)
  simpa using h

theorem At.notin {w : World} {sb lb fb cap : Nat} {S : Sl} (h : At w sb lb fb cap S) {b : Nat} (hb : w.heap.size ≤ b) : b ∉ [sb, lb, fb] := by
  have h1 := h.hd.lt
  have h2 := h.sl.lt
  have h3 := h.fr.lt
  simp
  omega
theorem hF0 {w : World} {b t : Nat} {x y : Int} (h : w.rowIs b t 2 (hF x y)) : w.cell? ⟨b, 0, none⟩ = some (.int .i64 x) := h.cell (by omega)
theorem hF1 {w : World} {b t : Nat} {x y : Int} (h : w.rowIs b t 2 (hF x y)) : w.cell? ⟨b, 1, none⟩ = some (.int .i64 y) := h.cell (by omega)

set_option maxRecDepth 100000 in
set_option maxHeartbeats 2000000 in
theorem awake_any (w : World) : Calls Try.prog 7 #[] w fun e w' => e = .returned (.bool true) ∧ Below w.heap.size w w' := by
  go_enter Try.func7, Try.ntmps7
  go_wp2_with fail
  refine (new_ok (n := 3) (r := 1) (by omega) (by omega) (by omega) (by omega)).mono ?_
  rintro e w1 ⟨sb, lb, fb, cap, rfl, hA, hb, b1, b2, b3⟩
  have HA : Hid (At w1 sb lb fb cap q0) := hA
  have HB : Hid (Below w.heap.size w w1) := hb
  have hin : ∀ i ∈ [sb, lb, fb], w.heap.size ≤ i := by simp; omega
  clear hA hb
  have HI : Hid (∀ i ∈ [sb, lb, fb], w.heap.size ≤ i) := hin
  clear hin
  go_wp2_with fail
  refine (aw1 HA.out).mono ?_
  rintro e w2 ⟨rfl, hA2, ho2⟩
  have HA2 : Hid (At w2 sb lb fb cap q1) := hA2
  have HB2 : Hid (Below w.heap.size w w2) := Only.to_below HB.out ho2 HI.out HB.out.size
  clear hA2 ho2
  go_wp2_with fail
  refine (aw2 (HA2.out.alloc _)).mono ?_
  rintro e w3 ⟨rfl, hA3, ho3⟩
  have HA3 : Hid (At w3 sb lb fb cap q2) := hA3
  have na := HA2.out.notin (Nat.le_refl _)
  have HB2' := HB2.out.alloc HB2.out.size (.cells #[.int .i64 0, .int .i64 1] 32)
  have HB3 : Hid (Below w.heap.size w w3) := Only.to_below HB2' ho3 HI.out HB2'.size
  have RA3 : Hid (w3.rowIs w2.heap.size 32 2 (hF 0 1)) := ho3.row (hF_new w2 0 1) na
  clear hA3 ho3 HB2'
  go_wp2_with fail
  refine (aw3 (HA3.out.alloc _)).mono ?_
  rintro e w4 ⟨rfl, ho4⟩
  have HA4 : Hid (At w4 sb lb fb cap q2) := (HA3.out.alloc _).only0 ho4
  have nb := HA3.out.notin (Nat.le_refl _)
  have HB3' := HB3.out.alloc HB3.out.size (.cells #[.int .i64 1, .int .i64 1] 32)
  have HB4 : Hid (Below w.heap.size w w4) := Only.to_below HB3' ho4 (by simp) HB3'.size
  have RA4 : Hid (w4.rowIs w2.heap.size 32 2 (hF 0 1)) := ho4.row (RA3.out.alloc _) (by simp)
  have RB4 : Hid (w4.rowIs w3.heap.size 32 2 (hF 1 1)) := ho4.row (hF_new w3 1 1) (by simp)
  clear ho4 HB3'
  go_wp2_with fail
  refine (aw4 (HA4.out.alloc _)).mono ?_
  rintro e w5 ⟨rfl, hA5, ho5⟩
  have HA5 : Hid (At w5 sb lb fb cap q3) := hA5
  have HB4' := HB4.out.alloc HB4.out.size (.cells #[.int .i64 0, .int .i64 0] 32)
  have HB5 : Hid (Below w.heap.size w w5) := Only.to_below HB4' ho5 HI.out HB4'.size
  have RA5 : Hid (w5.rowIs w2.heap.size 32 2 (hF 0 1)) := ho5.row (RA4.out.alloc _) na
  have RB5 : Hid (w5.rowIs w3.heap.size 32 2 (hF 1 1)) := ho5.row (RB4.out.alloc _) nb
  clear ho5 HB4' hA5
  have a0 := hF0 RA5.out
  have a1 := hF1 RA5.out
  have a2 := RA5.out.lt
  go_wp2_with fail
  refine (aw5 (HA5.out.alloc _)).mono ?_
  rintro e w6 ⟨rfl, hA6, ho6⟩
  have HA6 : Hid (At w6 sb lb fb cap q4) := hA6
  have nc := HA5.out.notin (Nat.le_refl _)
  have HB5' := HB5.out.alloc HB5.out.size (.cells #[.int .i64 2, .int .i64 1] 32)
  have HB6 : Hid (Below w.heap.size w w6) := Only.to_below HB5' ho6 HI.out HB5'.size
  have RA6 : Hid (w6.rowIs w2.heap.size 32 2 (hF 0 1)) := ho6.row (RA5.out.alloc _) na
  have RB6 : Hid (w6.rowIs w3.heap.size 32 2 (hF 1 1)) := ho6.row (RB5.out.alloc _) nb
  have RC6 : Hid (w6.rowIs w5.heap.size 32 2 (hF 2 1)) := ho6.row (hF_new w5 2 1) nc
  clear ho6 HB5' hA6 a0 a1 a2
  go_wp2_with fail
  refine (aw6 HA6.out).mono ?_
  rintro e w7 ⟨rfl, hA7, ho7⟩
  have HA7 : Hid (At w7 sb lb fb cap q5) := hA7
  have HB7 : Hid (Below w.heap.size w w7) := Only.to_below HB6.out ho7 HI.out HB6.out.size
  have RA7 : Hid (w7.rowIs w2.heap.size 32 2 (hF 0 1)) := ho7.row RA6.out na
  have RB7 : Hid (w7.rowIs w3.heap.size 32 2 (hF 1 1)) := ho7.row RB6.out nb
  have RC7 : Hid (w7.rowIs w5.heap.size 32 2 (hF 2 1)) := ho7.row RC6.out nc
  clear ho7 hA7
  have a0 := hF0 RA7.out
  have a1 := hF1 RA7.out
  have a2 := RA7.out.lt
  go_wp2_with fail
  refine (aw7 (HA7.out.alloc _)).mono ?_
  rintro e w8 ⟨rfl, ho8⟩
  have HA8 : Hid (At w8 sb lb fb cap q5) := (HA7.out.alloc _).only0 ho8
  have HB7' := HB7.out.alloc HB7.out.size (.cells #[.int .i64 0, .int .i64 2] 32)
  have HB8 : Hid (Below w.heap.size w w8) := Only.to_below HB7' ho8 (by simp) HB7'.size
  have RA8 := ho8.row (RA7.out.alloc _) (by simp)
  have RB8 := ho8.row (RB7.out.alloc _) (by simp)
  have RC8 := ho8.row (RC7.out.alloc _) (by simp)
  have RD8 := ho8.row (hF_new w7 0 2) (by simp)
  clear ho8 HB7' a0 a1 a2
  have a0 := hF0 RA8
  have a1 := hF1 RA8
  have c0 := hF0 RB8
  have c1 := hF1 RB8
  have d0 := hF0 RC8
  have d1 := hF1 RC8
  have e0 := hF0 RD8
  have e1 := hF1 RD8
  clear RA8 RB8 RC8 RD8
  go_wp2_with fail
  refine (aw8 HA8.out).mono ?_
  rintro e w9 ⟨rfl, rfl⟩
  go_wp2_with fail
  go_ret
  exact ⟨rfl, HB8.out⟩

theorem few_any {w : World} {A : Option Addr} {n c : Nat} (hn : n ≤ 9223372036854775807) : Calls Try.prog 6 #[.slice A n c] w fun e w' => e = .returned (.bool (decide (n ≤ 60))) ∧ w = w' := by
  go_enter Try.func6, Try.ntmps6
  go_wp2_with fail
  go_ret
  refine ⟨?_, rfl⟩
  show Ending.returned (.bool _) = _
  congr 2
  simp
  omega
end Go.Proofs.Ytegnbodolkaelaa
