/-
  GvtMasters: what each call of a master answers, and which time it tells, call by call, is what the document's answer says: the Go function answers true for every number of workers and every list of calls, and leaves its arguments as they were. No condition.
-/
import Derived.Test.YtdommbaljchofaaMasters
import Derived.Test.YtdommbaljchofaaO
import Derived.Below
namespace Go.Proofs.Ytdommbaljchofaa
open Go.ChangeShapes Go.WideShapes Go.ChangeAt Go.RowKit Go.Deep
set_option linter.unusedVariables false

set_option maxRecDepth 100000 in
set_option maxHeartbeats 1000000 in
theorem masters_out {w : World} {n : Int} {m c : Nat} {A : Option Addr} (h : n < 1 ∨ 8 < n) :
    Calls Try.prog 7 #[.int .i64 n, .slice A m c] w fun e w' => e = .returned (.bool true) ∧ Below w.heap.size w w' := by
  by_cases h1 : n < 1
  · have H := hide h
    clear h
    go_enter Try.func7, Try.ntmps7
    go_wp2_with fail
    refine (newm_bad (unhide H)).mono ?_
    rintro e w' ⟨rfl, rfl⟩
    go_wp2_with (go_at_call 11; refine (awake_any _).mono ?_; rintro e w1 ⟨rfl, hb⟩; have HB := hide hb; clear hb)
    go_ret
    exact ⟨rfl, unhide HB⟩
  · have h2 : 8 < n := by omega
    have H := hide h
    clear h
    go_enter Try.func7, Try.ntmps7
    go_wp2_with fail
    refine (newm_bad (unhide H)).mono ?_
    rintro e w' ⟨rfl, rfl⟩
    go_wp2_with (go_at_call 11; refine (awake_any _).mono ?_; rintro e w1 ⟨rfl, hb⟩; have HB := hide hb; clear hb)
    go_ret
    exact ⟨rfl, unhide HB⟩

set_option maxRecDepth 100000 in
set_option maxHeartbeats 1000000 in
theorem masters_many {w : World} {n m c : Nat} {A : Option Addr} {ops : Nat → OpV} (h1 : 1 ≤ n) (h2 : n ≤ 8) (hm : m ≤ 9223372036854775807) (hfew : fewB m ops = false) (hO : OpsAt w A m ops) :
    Calls Try.prog 7 #[.int .i64 n, .slice A m c] w fun e w' => e = .returned (.bool true) ∧ Below w.heap.size w w' := by
  have d1 : decide ((n : Int) < 1) = false := by simp; omega
  have d2 : decide (8 < (n : Int)) = false := by simp; omega
  have HO : Hid (OpsAt w A m ops) := hO
  have HF := hide hfew
  clear hO hfew
  go_enter Try.func7, Try.ntmps7
  go_wp2_with fail
  refine (newm_ok h1 h2).mono ?_
  rintro e w1 ⟨qb, tb0, rfl, hM, hb, b1, b2⟩
  have HB : Hid (Below w.heap.size w w1) := hb
  have HO1 : Hid (OpsAt w1 A m ops) := HO.out.below hb
  clear hM hb
  go_wp2_with (first | (go_at_call 10; refine (few_any hm HO1.out (unhide HF)).mono ?_; rintro e w' ⟨rfl, rfl⟩) | (go_at_call 11; refine (awake_any _).mono ?_; rintro e w3 ⟨rfl, hb3⟩; have HB3 := hide hb3; clear hb3))
  go_ret
  exact ⟨rfl, HB.out.trans ((unhide HB3).mono HB.out.size)⟩

theorem masters_walk {w : World} {n : Int} {m c : Nat} {A : Option Addr} {ops : Nat → OpV} (hm : m ≤ 9223372036854775807) (hO : OpsAt w A m ops) :
    Calls Try.prog 7 #[.int .i64 n, .slice A m c] w fun e w' => e = .returned (.bool true) ∧ Below w.heap.size w w' := by
  by_cases h : n < 1 ∨ 8 < n
  · exact masters_out h
  · obtain ⟨k, rfl⟩ : ∃ k : Nat, n = (k : Int) := ⟨n.toNat, by omega⟩
    cases hf : fewB m ops with
    | true => exact masters_main (by omega) (by omega) hf hO
    | false => exact masters_many (by omega) (by omega) hm hf hO

theorem own : ownKnob Try.prog.godebug = none := by kernel_rfl
theorem laidOut : laidOutB Try.prog = true := by kernel_rfl

set_option maxRecDepth 100000 in
theorem masters_lifted (os : Os) (started : os.Started) (H : Type) (enc : TypeId × Value → H) :
    ReturnsInHanded {} Try.checked os 7 .any (Rows.gvtMastersSpec.pre6 enc Try.prog Try.f7 Rows.gvtMastersRow.domain false) (Rows.gvtMastersSpec.post enc Try.prog Try.f7 false true false false) := by
  refine returnsInHanded_of_change (C := Try.checked) own started (by kernel_rfl) Try.func7
    (ChangeSpec.witness6 (enc := enc) (C := Try.checked) false ⟨#[], #[.int .i64 0, .slice none 0 0], []⟩ 8 (by kernel_rfl) (by kernel_rfl) (by kernel_rfl) (by kernel_rfl)) ?_
  intro W base args ds gs before hval0 hW hcnd _
  have hval : ∀ (j : Nat) t v, Try.f7.params[j]? = some t → args[j]? = some v → Value.okWide Try.prog W .any base t v := hval0
  have hW' := hW
  obtain ⟨p, q, hA0, hV, rfl, hfz, hnd⟩ := hW
  have hA : DataW.TrodAll enc Try.prog W 0 (fun _ => true) true Try.f7.params.toList args.toList ds p := hA0
  rw [Try.params7] at hA hval
  obtain ⟨v0, vs0, d0, ds0, p0, q0, hargs, rfl, rfl, h0, r0⟩ := trodAll_cons hA
  obtain ⟨v1, vs1, d1, ds1, p1, q1, rfl, rfl, rfl, h1, r1⟩ := trodAll_cons r0
  obtain ⟨rfl, rfl, rfl⟩ := trodAll_nil r1
  obtain rfl : args = #[v0, v1] := by cases args; simp_all
  obtain ⟨rfl, rfl⟩ := trodVars_none hV
  obtain ⟨n, rfl, rfl, rfl, wn⟩ := open_int Try.underlying3 (hval 0 3 v0 rfl rfl) h0
  obtain ⟨A, len, cap, rfl⟩ := okWide_slice Try.underlying22 (hval 1 22 v1 rfl rfl)
  have k1 := h1
  have lt1 : ∀ x ∈ p1, x.block < W.heap.size := by obtain ⟨m, hm⟩ := k1; exact DataW.trod_lt m _ _ _ hm
  obtain ⟨hlen, ops, hops⟩ : len ≤ 9223372036854775807 ∧ ∃ ops, OpsAt W A len ops := by
    obtain ⟨fuel, hf⟩ := h1
    exact open_ops (by simpa [Value.cells] using hf) lt1
  clear hA0 hval0
  refine (masters_walk hlen hops).mono fun e W' ⟨he, bel⟩ => ?_
  subst he
  exact ⟨_, rfl, _, _, _, [], _, [], hW', trodAll_mk1 (shut_bool Try.underlying4 _), (trodAll_cons_mk (shut_int Try.underlying3 wn) (trodAll_cons_mk (Below.trod laidOut (by kernel_rfl) (of_decide_eq_true (by kernel_rfl)) k1 bel lt1) trodAll_mk0)), rfl, bel.frame _, fun h => by cases h⟩

theorem masters_over : Rows.gvtMastersRow.holds Try.pinned (OpenSpec.ofChange Rows.gvtMastersSpec) :=
  OpenClaim.holds_of_wide 7 Try.f7 rfl rfl rfl rfl rfl rfl rfl ⟨rfl, rfl, rfl, rfl, rfl⟩ rfl rfl rfl rfl rfl (by kernel_rfl) Try.func7 (by kernel_rfl)
    (of_decide_eq_true (by kernel_rfl)) (by unfold Func.isWrapper; first | (rw [if_pos (by decide +kernel)]; kernel_rfl) | (rw [if_neg (by decide +kernel)]; exact ⟨rfl, rfl⟩))
    (fun os started H enc _ => masters_lifted os started H enc)

theorem gvtMasters_holds : Rows.GvtMastersSaid := masters_over
#print axioms gvtMasters_holds
end Go.Proofs.Ytdommbaljchofaa
