/-
  The contract of (*Slab).find: a handle of what is there; a handle of what is not.
-/
import Derived.Test.YtegnbodolkaelaaRows
import Derived.Test.YtegnbodolkaelaaS
import Derived.Deep.QuietTactic
import Derived.BigQuiet
import Derived.Outline
namespace Go.Proofs.Ytegnbodolkaelaa
open Go.RowKit Go.Deep
set_option linter.unusedVariables false

set_option maxHeartbeats 400000 in
theorem find_ok {w : World} {sb lb fb cap : Nat} {S : Sl} {i : Nat} (hA : At w sb lb fb cap S) (hi : i < S.n) (hn : S.n ≤ 4096) (hc : S.cl i ≠ 0) :
    Calls Try.prog 16 #[.pointer (some ⟨sb, 0, none⟩), .agg #[.int .i64 i, .int .i64 (S.tn i)]] w fun e w' =>
      e = .returned (.tuple #[.pointer (some ⟨lb, i * 4, none⟩), .int .i64 0]) ∧ Only [] w w' := by
  have k0 := hA.c0
  have k1 := hA.s0 hi
  have k2 := hA.s1 hi
  have k3 := hA.s2 hi
  have hcb : (S.cl i == 0) = false := by simpa using hc
  have hlt : decide ((i : Int) < 0) = false := by simp
  have hge : decide (S.n ≤ i) = false := by simp; omega
  have l1 := hA.hd.lt
  have l2 := hA.sl.lt
  clear hA hc
  go_enter Try.func16, Try.ntmps16
  go_wp2_with fail
  go_quiet (fail)
  go_wp2_with fail
  go_quiet (fail)
  go_wp2_with fail
  go_quiet (fail)
  go_wp2_with fail
  go_ret2
  exact ⟨rfl, by repeat (first | exact Only.refl _ _ | apply Only.drewN | apply Only.alloc)⟩

/-- The slot is none of the slab's. -/
theorem find_out {w : World} {sb lb fb cap : Nat} {S : Sl} {i t : Int} (hA : At w sb lb fb cap S) (hi : i < 0 ∨ S.n ≤ i) (hn : S.n ≤ 4096) :
    Calls Try.prog 16 #[.pointer (some ⟨sb, 0, none⟩), .agg #[.int .i64 i, .int .i64 t]] w fun e w' =>
      e = .returned (.tuple #[.pointer none, .int .i64 12]) ∧ Only [] w w' := by
  have k0 := hA.c0
  have l1 := hA.hd.lt
  have l2 := hA.sl.lt
  clear hA
  by_cases h : i < 0
  · have hlt : decide (i < 0) = true := by simpa using h
    go_enter Try.func16, Try.ntmps16
    go_wp2_with fail
    go_quiet (fail)
    go_wp2_with fail
    go_ret2
    exact ⟨rfl, by repeat (first | exact Only.refl _ _ | apply Only.drewN | apply Only.alloc)⟩
  · have hlt : decide (i < 0) = false := by simpa using h
    have hge : (S.n : Int) ≤ i := by omega
    clear hi
    go_enter Try.func16, Try.ntmps16
    go_wp2_with fail
    go_quiet (fail)
    go_wp2_with fail
    go_ret2
    exact ⟨rfl, by repeat (first | exact Only.refl _ _ | apply Only.drewN | apply Only.alloc)⟩

set_option maxHeartbeats 400000 in
/-- The slot holds nothing. -/
theorem find_none {w : World} {sb lb fb cap : Nat} {S : Sl} {i : Nat} {t : Int} (hA : At w sb lb fb cap S) (hi : i < S.n) (hn : S.n ≤ 4096) (hc : S.cl i = 0) :
    Calls Try.prog 16 #[.pointer (some ⟨sb, 0, none⟩), .agg #[.int .i64 i, .int .i64 t]] w fun e w' =>
      e = .returned (.tuple #[.pointer none, .int .i64 12]) ∧ Only [] w w' := by
  have k0 := hA.c0
  have k1 := hA.s0 hi
  have k2 := hA.s1 hi
  have k3 := hA.s2 hi
  rw [hc] at k3
  have hlt : decide ((i : Int) < 0) = false := by simp
  have hge : decide (S.n ≤ i) = false := by simp; omega
  have l1 := hA.hd.lt
  have l2 := hA.sl.lt
  clear hA hc
  go_enter Try.func16, Try.ntmps16
  go_wp2_with fail
  go_quiet (fail)
  go_wp2_with fail
  go_quiet (fail)
  go_wp2_with fail
  go_quiet (fail)
  go_wp2_with fail
  go_ret2
  exact ⟨rfl, by repeat (first | exact Only.refl _ _ | apply Only.drewN | apply Only.alloc)⟩

set_option maxHeartbeats 400000 in
/-- The slot holds another thing. -/
theorem find_other {w : World} {sb lb fb cap : Nat} {S : Sl} {i : Nat} {t : Int} (hA : At w sb lb fb cap S) (hi : i < S.n) (hn : S.n ≤ 4096) (hc : S.cl i ≠ 0) (ht : S.tn i ≠ t) :
    Calls Try.prog 16 #[.pointer (some ⟨sb, 0, none⟩), .agg #[.int .i64 i, .int .i64 t]] w fun e w' =>
      e = .returned (.tuple #[.pointer none, .int .i64 12]) ∧ Only [] w w' := by
  have k0 := hA.c0
  have k1 := hA.s0 hi
  have k2 := hA.s1 hi
  have k3 := hA.s2 hi
  have hcb : (S.cl i == 0) = false := by simpa using hc
  have htb : (S.tn i == t) = false := by simpa using ht
  have htc : (S.tn i != t) = true := by simpa using ht
  have hlt : decide ((i : Int) < 0) = false := by simp
  have hge : decide (S.n ≤ i) = false := by simp; omega
  have l1 := hA.hd.lt
  have l2 := hA.sl.lt
  clear hA hc ht
  go_enter Try.func16, Try.ntmps16
  go_wp2_with fail
  go_quiet (fail)
  go_wp2_with fail
  go_quiet (fail)
  go_wp2_with fail
  go_quiet (fail)
  go_wp2_with fail
  go_ret2
  exact ⟨rfl, by repeat (first | exact Only.refl _ _ | apply Only.drewN | apply Only.alloc)⟩

/-- A handle that tells nothing. -/
def Stale (S : Sl) (i t : Int) : Prop := (i < 0 ∨ S.n ≤ i) ∨ (0 ≤ i ∧ i < S.n ∧ (S.cl i.toNat = 0 ∨ S.tn i.toNat ≠ t))

theorem find_stale {w : World} {sb lb fb cap : Nat} {S : Sl} {i t : Int} (hA : At w sb lb fb cap S) (hn : S.n ≤ 4096) (hs : Stale S i t) :
    Calls Try.prog 16 #[.pointer (some ⟨sb, 0, none⟩), .agg #[.int .i64 i, .int .i64 t]] w fun e w' =>
      e = .returned (.tuple #[.pointer none, .int .i64 12]) ∧ Only [] w w' := by
  rcases hs with h | ⟨h0, h1, h⟩
  · exact find_out hA h hn
  · obtain ⟨k, rfl⟩ := Int.eq_ofNat_of_zero_le h0
    rw [Int.toNat_natCast] at h
    by_cases hc : S.cl k = 0
    · exact find_none hA (by omega) hn hc
    · exact find_other hA (by omega) hn hc (h.resolve_left hc)
end Go.Proofs.Ytegnbodolkaelaa
