/-
  SlabCounts: what is live, and what is left, are together as many as there are slots, no two things have one slot, a handle of what was freed tells nothing ever again, and what is not urgent leaves as many as are kept: the Go function answers true for every pair of numbers and every list of calls, and leaves its arguments as they were. No condition.
-/
import Derived.Test.YtegnbodolkaelaaL2
import Derived.Test.YtegnbodolkaelaaO
import Derived.Below
namespace Go.Proofs.Ytegnbodolkaelaa
open Go.ChangeShapes Go.WideShapes Go.ChangeAt Go.RowKit Go.Deep
set_option linter.unusedVariables false

set_option maxRecDepth 100000 in
set_option maxHeartbeats 1000000 in
theorem counts_out {w : World} {n r : Int} {m c : Nat} {A : Option Addr} (hm : m ≤ 9223372036854775807) (h : n < 1 ∨ 40 < n ∨ r < 0 ∨ n < r ∨ 60 < m) :
    Calls Try.prog 4 #[.agg #[.int .i64 n, .int .i64 r], .slice A m c] w fun e w' => e = .returned (.bool true) ∧ Below w.heap.size w w' := by
  by_cases h1 : n < 1
  · have d1 : decide (n < 1) = true := by simpa using h1
    clear h
    go_enter Try.func4, Try.ntmps4
    go_wp2_with fail
    refine (awake_any _).mono ?_
    rintro e w1 ⟨rfl, hb⟩
    have HB : Hid (Below w.heap.size w w1) := ((Below.refl _ _).alloc (Nat.le_refl _) _).trans (hb.mono (by simp))
    clear hb
    go_wp2_with fail
    go_ret
    exact ⟨rfl, HB.out⟩
  have d1 : decide (n < 1) = false := by simpa using h1
  by_cases h2 : 40 < n
  · have d2 : decide (40 < n) = true := by simpa using h2
    clear h
    go_enter Try.func4, Try.ntmps4
    go_wp2_with fail
    refine (awake_any _).mono ?_
    rintro e w1 ⟨rfl, hb⟩
    have HB : Hid (Below w.heap.size w w1) := ((Below.refl _ _).alloc (Nat.le_refl _) _).trans (hb.mono (by simp))
    clear hb
    go_wp2_with fail
    go_ret
    exact ⟨rfl, HB.out⟩
  have d2 : decide (40 < n) = false := by simpa using h2
  by_cases h3 : r < 0
  · have d3 : decide (r < 0) = true := by simpa using h3
    clear h
    go_enter Try.func4, Try.ntmps4
    go_wp2_with fail
    refine (awake_any _).mono ?_
    rintro e w1 ⟨rfl, hb⟩
    have HB : Hid (Below w.heap.size w w1) := ((Below.refl _ _).alloc (Nat.le_refl _) _).trans (hb.mono (by simp))
    clear hb
    go_wp2_with fail
    go_ret
    exact ⟨rfl, HB.out⟩
  have d3 : decide (r < 0) = false := by simpa using h3
  by_cases h4 : n < r
  · have d4 : decide (n < r) = true := by simpa using h4
    clear h
    go_enter Try.func4, Try.ntmps4
    go_wp2_with fail
    refine (awake_any _).mono ?_
    rintro e w1 ⟨rfl, hb⟩
    have HB : Hid (Below w.heap.size w w1) := ((Below.refl _ _).alloc (Nat.le_refl _) _).trans (hb.mono (by simp))
    clear hb
    go_wp2_with fail
    go_ret
    exact ⟨rfl, HB.out⟩
  have d4 : decide (n < r) = false := by simpa using h4
  have h5 : 60 < m := by omega
  clear h
  go_enter Try.func4, Try.ntmps4
  go_wp2_with fail
  refine (few_any hm).mono ?_
  rintro e w' ⟨rfl, rfl⟩
  have d5 : decide (m ≤ 60) = false := by simp; omega
  go_wp2_with fail
  refine (awake_any _).mono ?_
  rintro e w1 ⟨rfl, hb⟩
  have HB : Hid (Below w.heap.size w w1) := ((Below.refl _ _).alloc (Nat.le_refl _) _).trans (hb.mono (by simp))
  clear hb
  go_wp2_with fail
  go_ret
  exact ⟨rfl, HB.out⟩

theorem counts_walk {w : World} {n r : Int} {m c : Nat} {A : Option Addr} {ops : Nat → OpV} (hm : m ≤ 9223372036854775807) (hO : OpsAt w A m ops) :
    Calls Try.prog 4 #[.agg #[.int .i64 n, .int .i64 r], .slice A m c] w fun e w' => e = .returned (.bool true) ∧ Below w.heap.size w w' := by
  by_cases h : n < 1 ∨ 40 < n ∨ r < 0 ∨ n < r ∨ 60 < m
  · exact counts_out hm h
  · obtain ⟨k, rfl⟩ : ∃ k : Nat, n = (k : Int) := ⟨n.toNat, by omega⟩
    exact counts_main (by omega) (by omega) (by omega) (by omega) (by omega) hO

namespace counts
theorem own : ownKnob Try.prog.godebug = none := by kernel_rfl
theorem laidOut : laidOutB Try.prog = true := by kernel_rfl
end counts

set_option maxRecDepth 100000 in
theorem counts_lifted (os : Os) (started : os.Started) (H : Type) (enc : TypeId × Value → H) :
    ReturnsInHanded {} Try.checked os 4 .any (Rows.slabCountsSpec.pre6 enc Try.prog Try.f4 Rows.slabCountsRow.domain false) (Rows.slabCountsSpec.post enc Try.prog Try.f4 false true false false) := by
  refine returnsInHanded_of_change (C := Try.checked) counts.own started (by kernel_rfl) Try.func4
    (ChangeSpec.witness6 (enc := enc) (C := Try.checked) false ⟨#[], #[.agg #[.int .i64 0, .int .i64 0], .slice none 0 0], []⟩ 8 (by kernel_rfl) (by kernel_rfl) (by kernel_rfl) (by kernel_rfl)) ?_
  intro W base args ds gs before hval0 hW hcnd _
  have hval : ∀ (j : Nat) t v, Try.f4.params[j]? = some t → args[j]? = some v → Value.okWide Try.prog W .any base t v := hval0
  have hW' := hW
  obtain ⟨p, q, hA0, hV, rfl, hfz, hnd⟩ := hW
  have hA : DataW.TrodAll enc Try.prog W 0 (fun _ => true) true Try.f4.params.toList args.toList ds p := hA0
  rw [Try.params4] at hA hval
  obtain ⟨v1, vs1, d1, ds1, p1, q1, hargs, rfl, rfl, h1, r1⟩ := trodAll_cons hA
  obtain ⟨v2, vs2, d2, ds2, p2, q2, rfl, rfl, rfl, h2, r2⟩ := trodAll_cons r1
  obtain ⟨rfl, rfl, rfl⟩ := trodAll_nil r2
  obtain rfl : args = #[v1, v2] := by cases args; simp_all
  obtain ⟨rfl, rfl⟩ := trodVars_none hV
  obtain ⟨x0, x1, rfl⟩ := open_two (hval 0 41 v1 rfl rfl) h1
  obtain ⟨A, len, cap, rfl⟩ := okWide_slice Try.underlying22 (hval 1 22 v2 rfl rfl)
  have k1 := h1
  have k2 := h2
  have lt1 : ∀ x ∈ p1, x.block < W.heap.size := by obtain ⟨m, hm⟩ := k1; exact DataW.trod_lt m _ _ _ hm
  have lt2 : ∀ x ∈ p2, x.block < W.heap.size := by obtain ⟨m, hm⟩ := k2; exact DataW.trod_lt m _ _ _ hm
  obtain ⟨hlen, ops, hops⟩ : len ≤ 9223372036854775807 ∧ ∃ ops, OpsAt W A len ops := by
    obtain ⟨fuel, hf⟩ := h2
    exact open_ops (by simpa [Value.cells] using hf) lt2
  clear hA0 hval0
  refine (counts_walk hlen hops).mono fun e W' ⟨he, bel⟩ => ?_
  subst he
  exact ⟨_, rfl, _, _, _, [], _, [], hW', trodAll_mk1 (shut_bool Try.underlying4 _), (trodAll_cons_mk (Below.trod counts.laidOut (by kernel_rfl) (of_decide_eq_true (by kernel_rfl)) k1 bel lt1) (trodAll_cons_mk (Below.trod counts.laidOut (by kernel_rfl) (of_decide_eq_true (by kernel_rfl)) k2 bel lt2) trodAll_mk0)), rfl, bel.frame _, fun h => by cases h⟩

theorem counts_over : Rows.slabCountsRow.holds Try.pinned (OpenSpec.ofChange Rows.slabCountsSpec) :=
  OpenClaim.holds_of_wide 4 Try.f4 rfl rfl rfl rfl rfl rfl rfl ⟨rfl, rfl, rfl, rfl, rfl⟩ rfl rfl rfl rfl rfl (by kernel_rfl) Try.func4 (by kernel_rfl)
    (of_decide_eq_true (by kernel_rfl)) (by unfold Func.isWrapper; first | (rw [if_pos (by decide +kernel)]; kernel_rfl) | (rw [if_neg (by decide +kernel)]; exact ⟨rfl, rfl⟩))
    (fun os started H enc _ => counts_lifted os started H enc)

theorem slabCounts_holds : Rows.SlabCountsSaid := counts_over
#print axioms slabCounts_holds
end Go.Proofs.Ytegnbodolkaelaa
