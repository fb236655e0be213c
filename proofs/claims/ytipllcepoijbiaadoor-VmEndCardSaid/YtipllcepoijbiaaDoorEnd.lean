/-
  VmEnd: a Stop behind a program without jumps, and any instructions behind that, turn nothing: the Go function answers true for every case and all such instructions, and leaves its arguments as they were. The table of the ops' shapes is as the program's text lays it (the card ties it).
-/
import Derived.Test.YtipllcepoijbiaaDoorZ
import Derived.Test.YtipllcepoijbiaaDoorTie
import Derived.Test.YtipllcepoijbiaaDoorCards
namespace Go.Proofs.YtipllcepoijbiaaDoor
open Go.ChangeShapes Go.WideShapes Go.ChangeAt Go.RowKit Go.Deep
set_option linter.unusedVariables false
set_option linter.unusedSimpArgs false
theorem own : ownKnob Tryd.prog.godebug = none := by kernel_rfl
theorem laidOut : laidOutB Tryd.prog = true := by kernel_rfl
theorem ct30 : Tryd.prog.cellTypes Tryd.prog.depth 30 = some [22, 3, 3, 3, 3, 3, 3, 3, 3, 3, 3, 3, 3] := by kernel_rfl
theorem slice_ok {W : World} {base : Nat} {a : Addr} {n c : Nat} (h : Cell.okWide Tryd.prog W .any base 22 (.slice (some a) n c)) : a.block < W.heap.size ∧ n ≤ c := by
  unfold Cell.okWide at h
  rw [Tryd.underlying22] at h
  simp only at h
  unfold Cell.ok at h
  rw [Tryd.underlying22] at h
  simp only at h
  obtain ⟨h1, _, _, _, row, cells, h2, _⟩ := h
  refine ⟨?_, h1⟩
  rcases Nat.lt_or_ge a.block W.heap.size with h' | h'
  · exact h'
  · exfalso
    simp [World.shape?, Array.getElem?_eq_none h'] at h2
section
variable {H : Type} {enc : TypeId × Value → H} {W : World} {base : Nat} {held : Bool}
theorem open_instr {sp : Nat → Bool} {n : Nat} {cs : List Value} {x : DataW H × List MemPlace} (h : DataW.trod enc Tryd.prog W base sp held n 33 cs = some x) : ∃ o : I, cs = o.cells := by
  obtain ⟨xs, n', _, _, hlen, hxl, hf⟩ := DataW.trod_struct Tryd.underlying33 h
  rw [c33] at hlen
  have hxl5 : xs.length = 5 := hxl
  have key : ∀ (i : Nat) (f : Field), (#[{ name := "Op", type := 3, offset := 0, embedded := false, tag := "", pkgPath := "", byteOffset := 0 }, { name := "A", type := 3, offset := 1, embedded := false, tag := "", pkgPath := "", byteOffset := 8 }, { name := "B", type := 3, offset := 2, embedded := false, tag := "", pkgPath := "", byteOffset := 16 }, { name := "C", type := 3, offset := 3, embedded := false, tag := "", pkgPath := "", byteOffset := 24 }, { name := "D", type := 3, offset := 4, embedded := false, tag := "", pkgPath := "", byteOffset := 32 }] : Array Field)[i]? = some f → i < 5 → f.type = 3 → f.offset = i → ∃ a, cs[i]? = some (.int .i64 a) := by
    intro i f hi hlt ht ho
    have h0 := hf i f hi
    rw [ht, ho, cells3] at h0
    obtain ⟨y, hy⟩ := some_of_lt (l := xs) (i := i) (by omega)
    rw [hy] at h0
    obtain ⟨a, ha⟩ := int_at h0
    refine ⟨a, ?_⟩
    rw [List.getElem?_take, if_pos (by decide), List.getElem?_drop] at ha
    simpa using ha
  obtain ⟨a0, g0⟩ := key 0 _ rfl (by decide) rfl rfl
  obtain ⟨a1, g1⟩ := key 1 _ rfl (by decide) rfl rfl
  obtain ⟨a2, g2⟩ := key 2 _ rfl (by decide) rfl rfl
  obtain ⟨a3, g3⟩ := key 3 _ rfl (by decide) rfl rfl
  obtain ⟨a4, g4⟩ := key 4 _ rfl (by decide) rfl rfl
  clear hf key h
  match cs, hlen, g0, g1, g2, g3, g4 with
  | [p0, p1, p2, p3, p4], _, g0, g1, g2, g3, g4 =>
    injection g0 with g0; injection g1 with g1; injection g2 with g2; injection g3 with g3; injection g4 with g4
    exact ⟨⟨a0, a1, a2, a3, a4⟩, by rw [g0, g1, g2, g3, g4]; rfl⟩
theorem open_prog {n : Nat} {A : Option Addr} {len cap : Nat} {x : DataW H × List MemPlace} (h : DataW.trod enc Tryd.prog W base (fun _ => true) held n 22 [.slice A len cap] = some x) :
    (A = none → cap = 0) ∧ ∃ p : List I, p.length = len ∧ PAt W A p := by
  rcases open_slice Tryd.underlying22 h with ⟨hcs, _⟩ | ⟨a, len', cap', m, n', D, Pl, hcs, _, hl, hm, hmm, hx, hi⟩
  · simp at hcs
    obtain ⟨rfl, rfl, rfl⟩ := hcs
    exact ⟨fun _ => rfl, [], rfl, fun j x hj => by simp at hj⟩
  · simp at hcs
    obtain ⟨rfl, rfl, rfl⟩ := hcs
    simp at hmm
    subst hmm
    refine ⟨fun h => (by cases h), ?_⟩
    have hone : ∀ i, ∃ o : I, i < len → a.spot = none ∧ a.block < W.heap.size ∧ W.cell? ⟨a.block, a.off + i * 5, none⟩ = some (.int .i64 o.o) ∧ W.cell? ⟨a.block, a.off + i * 5 + 1, none⟩ = some (.int .i64 o.a) ∧ W.cell? ⟨a.block, a.off + i * 5 + 2, none⟩ = some (.int .i64 o.b) ∧ W.cell? ⟨a.block, a.off + i * 5 + 3, none⟩ = some (.int .i64 o.c) ∧ W.cell? ⟨a.block, a.off + i * 5 + 4, none⟩ = some (.int .i64 o.d) := by
      intro i
      by_cases hil : i < len
      · obtain ⟨cs', hc, ht⟩ := hi i (by omega)
        rw [c33] at hc
        obtain ⟨_, _, hat⟩ := World.cells?_some hc
        obtain ⟨o, rfl⟩ := open_instr ht
        refine ⟨o, fun _ => ?_⟩
        have hadd : ∀ j, j < 5 → ((a.add (i * 5)).add j).block = a.block ∧ ((a.add (i * 5)).add j).off = a.off + i * 5 + j := by
          intro j _
          unfold Addr.add
          by_cases e : i * 5 = 0 <;> by_cases e' : j = 0 <;> simp [e, e', Nat.add_assoc]
        have hspot : ∀ j u, j < 5 → W.cell? ((a.add (i * 5)).add j) = some u → W.cell? ⟨a.block, a.off + i * 5 + j, none⟩ = some u := by
          intro j u hj hu
          have h1 := World.cell?_spot hu
          obtain ⟨h2, h3⟩ := hadd j hj
          rw [← hu]
          congr 1
          rw [← h2, ← h3, ← h1]
        have g := fun j u hj (hu : (o.cells)[j]? = some u) => hspot j u hj ((hat j hj).trans hu)
        have g0 := g 0 _ (by omega) rfl
        have hsp : a.spot = none := by
          have h0 := hat 0 (by omega)
          have h1 := World.cell?_spot (h0.trans (show _ = some (Value.int .i64 o.o) from rfl))
          unfold Addr.add at h1
          by_cases e : i * 5 = 0
          · simpa [e] using h1
          · obtain ⟨cs0, hc0, ht0⟩ := hi 0 (by omega)
            rw [c33] at hc0
            obtain ⟨_, hl0, hat0⟩ := World.cells?_some hc0
            obtain ⟨o0, rfl⟩ := open_instr ht0
            have h2 := World.cell?_spot ((hat0 0 (by omega)).trans (show _ = some (Value.int .i64 o0.o) from rfl))
            simpa [Addr.add] using h2
        exact ⟨hsp, (by simpa using World.block_lt_of_cell? W ⟨a.block, a.off + i * 5 + 0, none⟩ g0), g0, g 1 _ (by omega) rfl, g 2 _ (by omega) rfl, g 3 _ (by omega) rfl, g 4 _ (by omega) rfl⟩
      · exact ⟨⟨0, 0, 0, 0, 0⟩, fun h => absurd h hil⟩
    generalize hQ : (fun (i : Nat) (o : I) => a.spot = none ∧ a.block < W.heap.size ∧ W.cell? ⟨a.block, a.off + i * 5, none⟩ = some (.int .i64 o.o) ∧ W.cell? ⟨a.block, a.off + i * 5 + 1, none⟩ = some (.int .i64 o.a) ∧ W.cell? ⟨a.block, a.off + i * 5 + 2, none⟩ = some (.int .i64 o.b) ∧ W.cell? ⟨a.block, a.off + i * 5 + 3, none⟩ = some (.int .i64 o.c) ∧ W.cell? ⟨a.block, a.off + i * 5 + 4, none⟩ = some (.int .i64 o.d)) = Q
    have hone' : ∀ i, ∃ o : I, i < len → Q i o := by rw [← hQ]; exact hone
    obtain ⟨f, hf⟩ : ∃ f : Nat → I, ∀ i, i < len → Q i (f i) := ⟨fun i => (hone' i).choose, fun i => (hone' i).choose_spec⟩
    refine ⟨(List.range len).map f, by simp, fun j x hj => ?_⟩
    have hjl : j < len := by simpa using (List.getElem?_eq_some_iff.1 hj).1
    simp [hjl] at hj
    subst hj
    have h' := hf j hjl
    rw [← hQ] at h'
    obtain ⟨h1, h2, h3, h4, h5, h6, h7⟩ := h'
    exact ⟨a.block, a.off, by rw [← h1], h2, h3, h4, h5, h6, h7⟩
end
theorem door_met (os : Os) (args : Array Value) : laidMetH Tryd.prog [("boomerang/code.shapes", Rows.laid_boomerang_code_shapes)] ((World.doorLaid Tryd.prog 400 os).forCall (fun _ _ => 0) ⟨#[], args, []⟩).memory :=
  laidMetH_of_parts3 (fuel := 8) (laidMet_of_run' 8 (by kernel_rfl) (by kernel_rfl)) (by kernel_rfl) (by kernel_rfl)

set_option maxRecDepth 100000 in
theorem end_lifted (os : Os) (started : os.Started) (H : Type) (enc : TypeId × Value → H) :
    ReturnsInHanded {} Tryd.checked os 3 .any (fun w args => (Rows.vmEndSpec.pre enc Tryd.prog Tryd.f3 [] false w args ∧ laidMetH Tryd.prog [("boomerang/code.shapes", Rows.laid_boomerang_code_shapes)] w) ∧ sizedMet enc Tryd.prog Tryd.f3 (OpenSpec.ofChange Rows.vmEndSpec) false w args)
      (Rows.vmEndSpec.post enc Tryd.prog Tryd.f3 false true false false) := by
  refine returnsInHanded_of_change_and (C := Tryd.checked) (X := fun w _ => laidMetH Tryd.prog [("boomerang/code.shapes", Rows.laid_boomerang_code_shapes)] w) (fun _ _ _ hh h => h.of_heap hh) own started (by kernel_rfl) Tryd.func3
    (ChangeSpec.witness_shaped (enc := enc) (C := Tryd.checked) (os := os) (X := fun w _ => laidMetH Tryd.prog [("boomerang/code.shapes", Rows.laid_boomerang_code_shapes)] w) false (World.doorLaid Tryd.prog 400 os) #[.agg #[.slice none 0 0, .int .i64 0, .int .i64 0, .int .i64 0, .int .i64 0, .int .i64 0, .int .i64 0, .int .i64 0, .int .i64 0, .int .i64 0, .int .i64 0, .int .i64 0, .int .i64 0], .slice none 0 0] 8 rfl (World.shaped_of_RefB (by kernel_rfl) (by kernel_rfl)) (by kernel_rfl) (by kernel_rfl) (by kernel_rfl) (door_met os _)) ?_
  intro W base args ds gs before hval0 hW _ _ hLaid _
  have hval : ∀ (j : Nat) t v, Tryd.f3.params[j]? = some t → args[j]? = some v → Value.okWide Tryd.prog W .any base t v := hval0
  have hW' := hW
  obtain ⟨p, q, hA0, hV, rfl, hfz, hnd⟩ := hW
  have hA : DataW.TrodAll enc Tryd.prog W 0 (fun _ => true) true Tryd.f3.params.toList args.toList ds p := hA0
  rw [Tryd.params3] at hA hval
  obtain ⟨v1, vs1, d1, ds1, p1, q1, hargs, rfl, rfl, h1, r1⟩ := trodAll_cons hA
  obtain ⟨v2, vs2, d2, ds2, p2, q2, rfl, rfl, rfl, h2, r2⟩ := trodAll_cons r1
  obtain ⟨rfl, rfl, rfl⟩ := trodAll_nil r2
  obtain rfl : args = #[v1, v2] := by cases args; simp_all
  obtain ⟨rfl, rfl⟩ := trodVars_none hV
  have hv := hval 0 30 v1 rfl rfl
  unfold Value.okWide at hv
  rw [Tryd.underlying30] at hv
  simp only at hv
  obtain ⟨cs, rfl, hsz, ts, hts, _, hrow⟩ := hv
  rw [ct30] at hts
  injection hts with hts
  subst hts
  have hv2 := hval 1 22 v2 rfl rfl
  obtain ⟨A2, len2, cap2, rfl⟩ := okWide_slice Tryd.underlying22 hv2
  unfold Value.okWide at hv2
  rw [Tryd.underlying22] at hv2
  simp only at hv2
  have k1 := h1
  have k2 := h2
  have lt1 : ∀ x ∈ p1, x.block < W.heap.size := by obtain ⟨m, hm⟩ := k1; exact DataW.trod_lt m _ _ _ hm
  have lt2 : ∀ x ∈ p2, x.block < W.heap.size := by obtain ⟨m, hm⟩ := k2; exact DataW.trod_lt m _ _ _ hm
  obtain ⟨m1, hm1⟩ := h1
  obtain ⟨m2, hm2⟩ := h2
  obtain ⟨pv, s, e, fan, hcs, m3, y3, hy3, _⟩ := open_case (by simpa [Value.cells] using hm1)
  obtain ⟨_, qq, hqq, hQ⟩ := open_prog (by simpa [Value.cells] using hm2)
  obtain ⟨cl⟩ := cs
  simp only at hcs
  subst hcs
  obtain ⟨u, hu, hcell⟩ := hrow 0 pv rfl
  obtain rfl : u = 22 := by simpa using hu.symm
  obtain ⟨A, len, cap, rfl⟩ : ∃ A len cap, pv = .slice A len cap := by
    rcases open_slice Tryd.underlying22 hy3 with ⟨hc, _⟩ | ⟨a, l, c, _, _, _, _, hc, _⟩
    · exact ⟨none, 0, 0, by simpa using hc⟩
    · exact ⟨some a, l, c, by simpa using hc⟩
  obtain ⟨hN, pp, hpp, hP⟩ := open_prog hy3
  have hAA : ∀ a, A = some a → a.block < W.heap.size ∧ pp.length ≤ cap := by
    intro a ha
    subst ha
    rw [hpp]
    exact slice_ok hcell
  have hQA : ∀ a, A2 = some a → a.block < W.heap.size := by
    intro a ha
    subst ha
    exact (slice_ok hv2).1
  have hT := of_laid hLaid
  clear hA0 hval0
  subst hpp hqq
  have key : Calls Tryd.prog 3 #[.agg #[.slice A pp.length cap, .int .i64 (s 0), .int .i64 (s 1), .int .i64 (s 2), .int .i64 (s 3), .int .i64 (e 0), .int .i64 (e 1), .int .i64 (e 2), .int .i64 (e 3), .int .i64 (e 4), .int .i64 (e 5), .int .i64 (e 6), .int .i64 fan], .slice A2 qq.length cap2] W fun r w' => r = .returned (.bool true) ∧ Below W.heap.size W w' := by
    by_cases g1 : pp.length ≤ 30
    · by_cases g2 : qq.length ≤ 30
      · by_cases g3 : fan ≤ 2000
        · exact end_walk hT hP hAA hN hQ hQA g1 g2 g3
        · exact end_many3 hT g1 g2 (by omega)
      · exact end_many2 hT g1 (by omega)
    · exact end_many1 hT (by omega)
  refine key.mono fun e' W' ⟨he, bel⟩ => ?_
  subst he
  exact ⟨_, rfl, _, _, _, [], _, [], hW', trodAll_mk1 (shut_bool Tryd.underlying4 _), (trodAll_cons_mk (Below.trod laidOut (by kernel_rfl) (of_decide_eq_true (by kernel_rfl)) k1 bel lt1) (trodAll_cons_mk (Below.trod laidOut (by kernel_rfl) (of_decide_eq_true (by kernel_rfl)) k2 bel lt2) trodAll_mk0)), rfl, bel.frame _, fun h => by cases h⟩

theorem vmEnd_over : Rows.VmEndSaid :=
  OpenClaim.holds_of_wide 3 Tryd.f3 rfl rfl rfl rfl rfl rfl rfl ⟨rfl, rfl, rfl, rfl, rfl⟩ rfl rfl rfl rfl rfl (by kernel_rfl) Tryd.func3 (by kernel_rfl)
    (of_decide_eq_true (by kernel_rfl)) (by unfold Func.isWrapper; first | (rw [if_pos (by decide +kernel)]; kernel_rfl) | (rw [if_neg (by decide +kernel)]; exact ⟨rfl, rfl⟩))
    (fun os started H enc _ => end_lifted os started H enc)

theorem vmEnd_holds : Rows.VmEndCardSaid :=
  Claim7.holds_tied_plain_at .later [] [.data] true (true, "86a1cd689bec144b16402fc5f36b4d08b677cc8b789a2fcaeb514dd8e9277331") false
    vmEnd_over (fun _ h => by cases h) (by kernel_rfl) (fun _ h => by cases h) vmEnd_row_tie rfl ⟨rfl, rfl⟩ (by kernel_rfl) rfl
    (fun f fn hf hfn => by
      obtain rfl : f = 3 := Option.some.inj ((show Tryd.prog.funcNamed "boomerang/boomeranglaw06.VmEnd" = some 3 by kernel_rfl).symm.trans hf) |>.symm
      obtain rfl : fn = Tryd.f3 := (Option.some.inj (Tryd.func3.symm.trans hfn)).symm
      exact ⟨by kernel_rfl, fun j t ht => by
        rw [Tryd.params3] at ht
        have hm : t ∈ [30, 22] := by simpa using Array.mem_of_getElem? ht
        have hall : ([30, 22].all fun u => !Tryd.prog.wantsStandIn u) = true := by kernel_rfl
        exact (show Tryd.prog.wantsStandIn t = false by simpa using List.all_eq_true.1 hall t hm)⟩)
    (by kernel_rfl)
#print axioms vmEnd_holds
end Go.Proofs.YtipllcepoijbiaaDoor
