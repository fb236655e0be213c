/-
  VmNil: a nil machine has nothing, and a program without instructions does nothing: the Go function answers true for every case and every fuel, and leaves its arguments as they were. The table of the ops' shapes is as the program's text lays it (the card ties it).
-/
import Derived.Test.YtipllcepoijbiaaDoorP
import Derived.Test.YtipllcepoijbiaaDoorTie
import Derived.Test.YtipllcepoijbiaaDoorCards
namespace Go.Proofs.YtipllcepoijbiaaDoor
open Go.ChangeShapes Go.WideShapes Go.ChangeAt Go.RowKit Go.Deep
set_option linter.unusedVariables false
theorem own : ownKnob Tryd.prog.godebug = none := by kernel_rfl
theorem laidOut : laidOutB Tryd.prog = true := by kernel_rfl
def laidL {H : Type} : List (String × DataW H) := [("boomerang/code.shapes", Rows.laid_boomerang_code_shapes)]
theorem door_met (os : Os) (args : Array Value) : laidMetH Tryd.prog [("boomerang/code.shapes", Rows.laid_boomerang_code_shapes)] ((World.doorLaid Tryd.prog 400 os).forCall (fun _ _ => 0) ⟨#[], args, []⟩).memory :=
  laidMetH_of_parts3 (fuel := 8) (laidMet_of_run' 8 (by kernel_rfl) (by kernel_rfl)) (by kernel_rfl) (by kernel_rfl)

set_option maxRecDepth 100000 in
theorem nil_lifted (os : Os) (started : os.Started) (H : Type) (enc : TypeId × Value → H) :
    ReturnsInHanded {} Tryd.checked os 4 .any (fun w args => (Rows.vmNilSpec.pre enc Tryd.prog Tryd.f4 [] false w args ∧ laidMetH Tryd.prog [("boomerang/code.shapes", Rows.laid_boomerang_code_shapes)] w) ∧ sizedMet enc Tryd.prog Tryd.f4 (OpenSpec.ofChange Rows.vmNilSpec) false w args)
      (Rows.vmNilSpec.post enc Tryd.prog Tryd.f4 false true false false) := by
  refine returnsInHanded_of_change_and (C := Tryd.checked) (X := fun w _ => laidMetH Tryd.prog [("boomerang/code.shapes", Rows.laid_boomerang_code_shapes)] w) (fun _ _ _ hh h => h.of_heap hh) own started (by kernel_rfl) Tryd.func4
    (ChangeSpec.witness_shaped (enc := enc) (C := Tryd.checked) (os := os) (X := fun w _ => laidMetH Tryd.prog [("boomerang/code.shapes", Rows.laid_boomerang_code_shapes)] w) false (World.doorLaid Tryd.prog 400 os) #[.agg #[.slice none 0 0, .int .i64 0, .int .i64 0, .int .i64 0, .int .i64 0, .int .i64 0, .int .i64 0, .int .i64 0, .int .i64 0, .int .i64 0, .int .i64 0, .int .i64 0, .int .i64 0], .int .i64 0] 8 rfl (World.shaped_of_RefB (by kernel_rfl) (by kernel_rfl)) (by kernel_rfl) (by kernel_rfl) (by kernel_rfl) (door_met os _)) ?_
  intro W base args ds gs before hval0 hW _ _ hLaid _
  have hval : ∀ (j : Nat) t v, Tryd.f4.params[j]? = some t → args[j]? = some v → Value.okWide Tryd.prog W .any base t v := hval0
  have hW' := hW
  obtain ⟨p, q, hA0, hV, rfl, hfz, hnd⟩ := hW
  have hA : DataW.TrodAll enc Tryd.prog W 0 (fun _ => true) true Tryd.f4.params.toList args.toList ds p := hA0
  rw [Tryd.params4] at hA hval
  obtain ⟨v1, vs1, d1, ds1, p1, q1, hargs, rfl, rfl, h1, r1⟩ := trodAll_cons hA
  obtain ⟨v2, vs2, d2, ds2, p2, q2, rfl, rfl, rfl, h2, r2⟩ := trodAll_cons r1
  obtain ⟨rfl, rfl, rfl⟩ := trodAll_nil r2
  obtain rfl : args = #[v1, v2] := by cases args; simp_all
  obtain ⟨rfl, rfl⟩ := trodVars_none hV
  obtain ⟨cs, rfl, _⟩ := okWide_struct Tryd.underlying30 (hval 0 30 v1 rfl rfl)
  obtain ⟨fuel, rfl, rfl, rfl, wf⟩ := open_int Tryd.underlying3 (hval 1 3 v2 rfl rfl) h2
  have k1 := h1
  have lt1 : ∀ x ∈ p1, x.block < W.heap.size := by obtain ⟨m, hm⟩ := k1; exact DataW.trod_lt m _ _ _ hm
  obtain ⟨m1, hm1⟩ := h1
  obtain ⟨pv, s, e, fan, hcs, _⟩ := open_case (by simpa [Value.cells] using hm1)
  obtain ⟨cl⟩ := cs
  simp only at hcs
  subst hcs
  have hT := of_laid hLaid
  clear hA0 hval0
  refine (nil_walk (pv := pv) (s := s) (e := e) (fan := fan) (fuel := fuel) hT).mono fun e' W' ⟨he, bel⟩ => ?_
  subst he
  exact ⟨_, rfl, _, _, _, [], _, [], hW', trodAll_mk1 (shut_bool Tryd.underlying4 _), (trodAll_cons_mk (Below.trod laidOut (by kernel_rfl) (of_decide_eq_true (by kernel_rfl)) k1 bel lt1) (trodAll_cons_mk (shut_int Tryd.underlying3 wf) trodAll_mk0)), rfl, bel.frame _, fun h => by cases h⟩

theorem vmNil_over : Rows.VmNilSaid :=
  OpenClaim.holds_of_wide 4 Tryd.f4 rfl rfl rfl rfl rfl rfl rfl ⟨rfl, rfl, rfl, rfl, rfl⟩ rfl rfl rfl rfl rfl (by kernel_rfl) Tryd.func4 (by kernel_rfl)
    (of_decide_eq_true (by kernel_rfl)) (by unfold Func.isWrapper; first | (rw [if_pos (by decide +kernel)]; kernel_rfl) | (rw [if_neg (by decide +kernel)]; exact ⟨rfl, rfl⟩))
    (fun os started H enc _ => nil_lifted os started H enc)

theorem vmNil_holds : Rows.VmNilCardSaid :=
  Claim7.holds_tied_plain_at .later [] [.data] true (true, "86a1cd689bec144b16402fc5f36b4d08b677cc8b789a2fcaeb514dd8e9277331") false
    vmNil_over (fun _ h => by cases h) (by kernel_rfl) (fun _ h => by cases h) vmNil_row_tie rfl ⟨rfl, rfl⟩ (by kernel_rfl) rfl
    (fun f fn hf hfn => by
      obtain rfl : f = 4 := Option.some.inj ((show Tryd.prog.funcNamed "boomerang/boomeranglaw06.VmNil" = some 4 by kernel_rfl).symm.trans hf) |>.symm
      obtain rfl : fn = Tryd.f4 := (Option.some.inj (Tryd.func4.symm.trans hfn)).symm
      exact ⟨by kernel_rfl, fun j t ht => by
        rw [Tryd.params4] at ht
        have hm : t ∈ [30, 3] := by simpa using Array.mem_of_getElem? ht
        have hall : ([30, 3].all fun u => !Tryd.prog.wantsStandIn u) = true := by kernel_rfl
        exact (show Tryd.prog.wantsStandIn t = false by simpa using List.all_eq_true.1 hall t hm)⟩)
    (by kernel_rfl)
#print axioms vmNil_holds
end Go.Proofs.YtipllcepoijbiaaDoor
