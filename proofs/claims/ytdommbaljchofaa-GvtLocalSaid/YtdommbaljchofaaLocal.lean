/-
  GvtLocal: with more times that are open a report is the lesser one of what it is without them, and of them, and it is no greater than any message's that waits: the Go function answers true for every list of calls and all times, and leaves its arguments as they were. No condition.
-/
import Derived.Test.YtdommbaljchofaaT2
import Derived.Below
namespace Go.Proofs.Ytdommbaljchofaa
open Go.ChangeShapes Go.WideShapes Go.ChangeAt Go.RowKit Go.Deep
set_option linter.unusedVariables false

set_option maxRecDepth 100000 in
set_option maxHeartbeats 4000000 in
theorem local_many {w : World} {m c p1 p2 n1 n2 : Nat} {A L1 L2 : Option Addr} {ops : Nat → OpV} (hm : m ≤ 9223372036854775807) (hfew : fewB m ops = false) (hO : OpsAt w A m ops)  :
    Calls Try.prog 4 #[.slice A m c, .slice L1 n1 p1, .slice L2 n2 p2] w fun e w' => e = .returned (.bool true) ∧ Below w.heap.size w w' := by
  have HO : Hid (OpsAt w A m ops) := hO
  have HF := hide hfew
  clear hO hfew
  go_enter Try.func4, Try.ntmps4
  go_wp2_with fail
  refine (new_any _).mono ?_
  rintro e w1 ⟨wa, ma, rfl, hW, hb, b1, b2⟩
  have HB : Hid (Below w.heap.size w w1) := hb
  clear hW hb
  go_wp2_with fail
  refine (new_any _).mono ?_
  rintro e w2 ⟨wb, mb, rfl, hW, hb, b3, b4⟩
  have HB2 : Hid (Below w1.heap.size w1 w2) := hb
  have HO1 : Hid (OpsAt w2 A m ops) := (HO.out.below HB.out).below hb
  clear hW hb
  go_wp2_with (first | (go_at_call 10; refine (few_any hm HO1.out (unhide HF)).mono ?_; rintro e w' ⟨rfl, rfl⟩) | (go_at_call 11; refine (awake_any _).mono ?_; rintro e w3 ⟨rfl, hb3⟩; have HB3 := hide hb3; clear hb3))
  go_ret
  exact ⟨rfl, (HB.out.trans (HB2.out.mono HB.out.size)).trans ((unhide HB3).mono (Nat.le_trans HB.out.size HB2.out.size))⟩

set_option maxRecDepth 100000 in
set_option maxHeartbeats 4000000 in
theorem local_long {w : World} {m c p1 p2 n1 n2 : Nat} {A L1 L2 : Option Addr} {ops : Nat → OpV} (hm : m ≤ 9223372036854775807) (hfew : fewB m ops = true) (hO : OpsAt w A m ops) (h1 : 20 < n1) :
    Calls Try.prog 4 #[.slice A m c, .slice L1 n1 p1, .slice L2 n2 p2] w fun e w' => e = .returned (.bool true) ∧ Below w.heap.size w w' := by
  have HO : Hid (OpsAt w A m ops) := hO
  have HF := hide hfew
  have d1 : decide (20 < n1) = true := by simp; omega
  clear hO hfew
  go_enter Try.func4, Try.ntmps4
  go_wp2_with fail
  refine (new_any _).mono ?_
  rintro e w1 ⟨wa, ma, rfl, hW, hb, b1, b2⟩
  have HB : Hid (Below w.heap.size w w1) := hb
  clear hW hb
  go_wp2_with fail
  refine (new_any _).mono ?_
  rintro e w2 ⟨wb, mb, rfl, hW, hb, b3, b4⟩
  have HB2 : Hid (Below w1.heap.size w1 w2) := hb
  have HO1 : Hid (OpsAt w2 A m ops) := (HO.out.below HB.out).below hb
  clear hW hb
  go_wp2_with (first | (go_at_call 10; refine (few_any hm HO1.out (unhide HF)).mono ?_; rintro e w' ⟨rfl, rfl⟩) | (go_at_call 11; refine (awake_any _).mono ?_; rintro e w3 ⟨rfl, hb3⟩; have HB3 := hide hb3; clear hb3))
  go_ret
  exact ⟨rfl, (HB.out.trans (HB2.out.mono HB.out.size)).trans ((unhide HB3).mono (Nat.le_trans HB.out.size HB2.out.size))⟩

set_option maxRecDepth 100000 in
set_option maxHeartbeats 4000000 in
theorem local_long2 {w : World} {m c p1 p2 n1 n2 : Nat} {A L1 L2 : Option Addr} {ops : Nat → OpV} (hm : m ≤ 9223372036854775807) (hfew : fewB m ops = true) (hO : OpsAt w A m ops) (h1 : n1 ≤ 20) (h2 : 20 < n2) :
    Calls Try.prog 4 #[.slice A m c, .slice L1 n1 p1, .slice L2 n2 p2] w fun e w' => e = .returned (.bool true) ∧ Below w.heap.size w w' := by
  have HO : Hid (OpsAt w A m ops) := hO
  have HF := hide hfew
  have d1 : decide (20 < n1) = false := by simp; omega
  have d2 : decide (20 < n2) = true := by simp; omega
  clear hO hfew
  go_enter Try.func4, Try.ntmps4
  go_wp2_with fail
  refine (new_any _).mono ?_
  rintro e w1 ⟨wa, ma, rfl, hW, hb, b1, b2⟩
  have HB : Hid (Below w.heap.size w w1) := hb
  clear hW hb
  go_wp2_with fail
  refine (new_any _).mono ?_
  rintro e w2 ⟨wb, mb, rfl, hW, hb, b3, b4⟩
  have HB2 : Hid (Below w1.heap.size w1 w2) := hb
  have HO1 : Hid (OpsAt w2 A m ops) := (HO.out.below HB.out).below hb
  clear hW hb
  go_wp2_with (first | (go_at_call 10; refine (few_any hm HO1.out (unhide HF)).mono ?_; rintro e w' ⟨rfl, rfl⟩) | (go_at_call 11; refine (awake_any _).mono ?_; rintro e w3 ⟨rfl, hb3⟩; have HB3 := hide hb3; clear hb3))
  go_ret
  exact ⟨rfl, (HB.out.trans (HB2.out.mono HB.out.size)).trans ((unhide HB3).mono (Nat.le_trans HB.out.size HB2.out.size))⟩

theorem local_walk {w : World} {m c p1 p2 : Nat} {A L1 L2 : Option Addr} {ops : Nat → OpV} {lc mr : List Int} (hm : m ≤ 9223372036854775807) (hO : OpsAt w A m ops) (hI1 : IntsAt w L1 lc) (hI2 : IntsAt w L2 mr) :
    Calls Try.prog 4 #[.slice A m c, .slice L1 lc.length p1, .slice L2 mr.length p2] w fun e w' => e = .returned (.bool true) ∧ Below w.heap.size w w' := by
  cases hf : fewB m ops with
  | false => exact local_many hm hf hO
  | true =>
    by_cases h1 : 20 < lc.length
    · exact local_long hm hf hO h1
    by_cases h2 : 20 < mr.length
    · exact local_long2 hm hf hO (by omega) h2
    · exact local_main hf hO (by omega) (by omega) hI1 hI2

theorem own : ownKnob Try.prog.godebug = none := by kernel_rfl
theorem laidOut : laidOutB Try.prog = true := by kernel_rfl

set_option maxRecDepth 100000 in
theorem local_lifted (os : Os) (started : os.Started) (H : Type) (enc : TypeId × Value → H) :
    ReturnsInHanded {} Try.checked os 4 .any (Rows.gvtLocalSpec.pre6 enc Try.prog Try.f4 Rows.gvtLocalRow.domain false) (Rows.gvtLocalSpec.post enc Try.prog Try.f4 false true false false) := by
  refine returnsInHanded_of_change (C := Try.checked) own started (by kernel_rfl) Try.func4
    (ChangeSpec.witness6 (enc := enc) (C := Try.checked) false ⟨#[], #[.slice none 0 0, .slice none 0 0, .slice none 0 0], []⟩ 8 (by kernel_rfl) (by kernel_rfl) (by kernel_rfl) (by kernel_rfl)) ?_
  intro W base args ds gs before hval0 hW hcnd _
  have hval : ∀ (j : Nat) t v, Try.f4.params[j]? = some t → args[j]? = some v → Value.okWide Try.prog W .any base t v := hval0
  have hW' := hW
  obtain ⟨p, q, hA0, hV, rfl, hfz, hnd⟩ := hW
  have hA : DataW.TrodAll enc Try.prog W 0 (fun _ => true) true Try.f4.params.toList args.toList ds p := hA0
  rw [Try.params4] at hA hval
  obtain ⟨v1, vs1, d1, ds1, p1, q1, hargs, rfl, rfl, h1, r1⟩ := trodAll_cons hA
  obtain ⟨v2, vs2, d2, ds2, p2, q2, rfl, rfl, rfl, h2, r2⟩ := trodAll_cons r1
  obtain ⟨v3, vs3, d3, ds3, p3, q3, rfl, rfl, rfl, h3, r3⟩ := trodAll_cons r2
  obtain ⟨rfl, rfl, rfl⟩ := trodAll_nil r3
  obtain rfl : args = #[v1, v2, v3] := by cases args; simp_all
  obtain ⟨rfl, rfl⟩ := trodVars_none hV
  obtain ⟨A, len, cap, rfl⟩ := okWide_slice Try.underlying22 (hval 0 22 v1 rfl rfl)
  obtain ⟨A2, len2, cap2, rfl⟩ := okWide_slice Try.underlying28 (hval 1 28 v2 rfl rfl)
  obtain ⟨A3, len3, cap3, rfl⟩ := okWide_slice Try.underlying28 (hval 2 28 v3 rfl rfl)
  have k1 := h1
  have k2 := h2
  have k3 := h3
  have lt1 : ∀ x ∈ p1, x.block < W.heap.size := by obtain ⟨m, hm⟩ := k1; exact DataW.trod_lt m _ _ _ hm
  have lt2 : ∀ x ∈ p2, x.block < W.heap.size := by obtain ⟨m, hm⟩ := k2; exact DataW.trod_lt m _ _ _ hm
  have lt3 : ∀ x ∈ p3, x.block < W.heap.size := by obtain ⟨m, hm⟩ := k3; exact DataW.trod_lt m _ _ _ hm
  obtain ⟨hlen, ops, hops⟩ : len ≤ 9223372036854775807 ∧ ∃ ops, OpsAt W A len ops := by
    obtain ⟨fuel, hf⟩ := h1
    exact open_ops (by simpa [Value.cells] using hf) lt1
  obtain ⟨lc, rfl, hI1⟩ : ∃ lc : List Int, len2 = lc.length ∧ IntsAt W A2 lc := by
    obtain ⟨fuel, hf⟩ := h2
    obtain ⟨B, L, d, e, hI, _⟩ := open_nums (by simpa [Value.cells] using hf)
    simp at e
    obtain ⟨rfl, rfl, rfl⟩ := e
    exact ⟨L, rfl, hI⟩
  obtain ⟨mr, rfl, hI2⟩ : ∃ mr : List Int, len3 = mr.length ∧ IntsAt W A3 mr := by
    obtain ⟨fuel, hf⟩ := h3
    obtain ⟨B, L, d, e, hI, _⟩ := open_nums (by simpa [Value.cells] using hf)
    simp at e
    obtain ⟨rfl, rfl, rfl⟩ := e
    exact ⟨L, rfl, hI⟩
  clear hA0 hval0
  refine (local_walk hlen hops hI1 hI2).mono fun e W' ⟨he, bel⟩ => ?_
  subst he
  exact ⟨_, rfl, _, _, _, [], _, [], hW', trodAll_mk1 (shut_bool Try.underlying4 _), (trodAll_cons_mk (Below.trod laidOut (by kernel_rfl) (of_decide_eq_true (by kernel_rfl)) k1 bel lt1) (trodAll_cons_mk (Below.trod laidOut (by kernel_rfl) (of_decide_eq_true (by kernel_rfl)) k2 bel lt2) (trodAll_cons_mk (Below.trod laidOut (by kernel_rfl) (of_decide_eq_true (by kernel_rfl)) k3 bel lt3) trodAll_mk0))), rfl, bel.frame _, fun h => by cases h⟩

theorem local_over : Rows.gvtLocalRow.holds Try.pinned (OpenSpec.ofChange Rows.gvtLocalSpec) :=
  OpenClaim.holds_of_wide 4 Try.f4 rfl rfl rfl rfl rfl rfl rfl ⟨rfl, rfl, rfl, rfl, rfl⟩ rfl rfl rfl rfl rfl (by kernel_rfl) Try.func4 (by kernel_rfl)
    (of_decide_eq_true (by kernel_rfl)) (by unfold Func.isWrapper; first | (rw [if_pos (by decide +kernel)]; kernel_rfl) | (rw [if_neg (by decide +kernel)]; exact ⟨rfl, rfl⟩))
    (fun os started H enc _ => local_lifted os started H enc)

theorem gvtLocal_holds : Rows.GvtLocalSaid := local_over
#print axioms gvtLocal_holds
end Go.Proofs.Ytdommbaljchofaa
