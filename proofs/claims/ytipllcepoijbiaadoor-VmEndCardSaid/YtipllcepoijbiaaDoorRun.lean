/-
  A run.
-/
import Derived.Test.YtipllcepoijbiaaDoorN
namespace Go.Proofs.YtipllcepoijbiaaDoor
open Go.RowKit Go.Deep
set_option linter.unusedVariables false
set_option linter.unusedSimpArgs false
theorem lt4 {i : Nat} (h : i < 4) : i = 0 ∨ i = 1 ∨ i = 2 ∨ i = 3 := by omega
theorem row4 (w : World) (a b c d : Int) (f : Nat → Int) (h0 : f 0 = a) (h1 : f 1 = b) (h2 : f 2 = c) (h3 : f 3 = d) : (w.alloc (.cells #[.int .i64 a, .int .i64 b, .int .i64 c, .int .i64 d] 24)).rowIs w.heap.size 24 4 (fun j => .int .i64 (f j)) := by
  subst h0 h1 h2 h3
  exact World.rowIs_alloc w _ 24 (fun j => .int .i64 (f j)) fun i hi => by
    rcases lt4 (show i < 4 from hi) with rfl | rfl | rfl | rfl <;> rfl
theorem owns_weaken {w : World} {base base' : Nat} {e : TypeId} {size : Nat} {v : Value} {n : Nat} {xs : List Value} (h : w.ownsRow base e size v n xs) (hb : base' ≤ base) : w.ownsRow base' e size v n xs := by
  refine ⟨h.1, ?_⟩
  rcases h.2 with h0 | ⟨g, cap, cur, hv, hg, rest⟩
  · exact .inl h0
  · exact .inr ⟨g, cap, cur, hv, Nat.le_trans hb hg, rest⟩
theorem Below.row {B : Nat} {w w' : World} {b t n : Nat} {f : Nat → Value} (k : Below B w w') (h : w.rowIs b t n f) (hb : b < B) : w'.rowIs b t n f := h.of_block (k.block b hb)
set_option maxRecDepth 100000 in
set_option maxHeartbeats 8000000 in
theorem run_le {w : World} {pv : Value} {A : Option Addr} {cap K : Nat} {p : List I} {s e : Nat → Int} {fuel fan : Int}
    (hnew : ∀ W, Only [] w W → Calls Tryd.prog 11 #[pv, .agg #[.int .i64 (s 0), .int .i64 (s 1), .int .i64 (s 2), .int .i64 (s 3)], .agg #[.int .i64 (e 0), .int .i64 (e 1), .int .i64 (e 2), .int .i64 (e 3), .int .i64 (e 4), .int .i64 (e 5), .int .i64 (e 6)], .int .i64 fan] W fun r w' => r = .returned (.pointer (some ⟨W.heap.size + 1 + 1, 0, none⟩)) ∧ SAt w' (W.heap.size + 1 + 1) e A cap p fan ⟨csOf s, 0, []⟩ (.slice none 0 0) ∧ Only [] W w')
    (hn : p.length ≤ 1000) (hK : Still p K) (hf : fuel ≤ 1024) :
    Calls Tryd.prog 6 #[pv, .agg #[.int .i64 (s 0), .int .i64 (s 1), .int .i64 (s 2), .int .i64 (s 3)], .agg #[.int .i64 (e 0), .int .i64 (e 1), .int .i64 (e 2), .int .i64 (e 3), .int .i64 (e 4), .int .i64 (e 5), .int .i64 (e 6)], .int .i64 fuel, .int .i64 fan] w fun r w' =>
      ∃ sv, r = .returned (.tuple #[.agg #[.int .i64 ((runV p e fan (min fuel 1024).toNat ⟨csOf s, 0, []⟩ 0).1.cs 0), .int .i64 ((runV p e fan (min fuel 1024).toNat ⟨csOf s, 0, []⟩ 0).1.cs 1), .int .i64 ((runV p e fan (min fuel 1024).toNat ⟨csOf s, 0, []⟩ 0).1.cs 2), .int .i64 ((runV p e fan (min fuel 1024).toNat ⟨csOf s, 0, []⟩ 0).1.cs 3)], sv, .int .i64 ((runV p e fan (min fuel 1024).toNat ⟨csOf s, 0, []⟩ 0).2 : Int)]) ∧
        w'.ownsRow w.heap.size 38 4 sv (runV p e fan (min fuel 1024).toNat ⟨csOf s, 0, []⟩ 0).1.L.length ((runV p e fan (min fuel 1024).toNat ⟨csOf s, 0, []⟩ 0).1.L.flatMap Em.cells) ∧ Below w.heap.size w w' := by
  obtain ⟨k0, hk0⟩ : ∃ k, (min fuel 1024).toNat = k := ⟨_, rfl⟩
  rw [hk0]
  have hmin : min fuel 1024 = fuel := by omega
  rw [hmin] at hk0
  obtain ⟨RN, hRN⟩ : ∃ R, runV p e fan k0 ⟨csOf s, 0, []⟩ 0 = R := ⟨_, rfl⟩
  rw [hRN]
  have HRN := hide hRN
  have HN := hide hn
  have HKK := hide hK
  have HK0 := hide hk0
  have hf2 : decide ((1024 : Int) < fuel) = false := by simp; omega
  have hf3 : ¬ (1024 < fuel) := by omega
  obtain ⟨s0, hs0⟩ : ∃ x, s 0 = x := ⟨_, rfl⟩
  obtain ⟨s1, hs1⟩ : ∃ x, s 1 = x := ⟨_, rfl⟩
  obtain ⟨s2, hs2⟩ : ∃ x, s 2 = x := ⟨_, rfl⟩
  obtain ⟨s3, hs3⟩ : ∃ x, s 3 = x := ⟨_, rfl⟩
  obtain ⟨e0, he0⟩ : ∃ x, e 0 = x := ⟨_, rfl⟩
  obtain ⟨e1, he1⟩ : ∃ x, e 1 = x := ⟨_, rfl⟩
  obtain ⟨e2, he2⟩ : ∃ x, e 2 = x := ⟨_, rfl⟩
  obtain ⟨e3, he3⟩ : ∃ x, e 3 = x := ⟨_, rfl⟩
  obtain ⟨e4, he4⟩ : ∃ x, e 4 = x := ⟨_, rfl⟩
  obtain ⟨e5, he5⟩ : ∃ x, e 5 = x := ⟨_, rfl⟩
  obtain ⟨e6, he6⟩ : ∃ x, e 6 = x := ⟨_, rfl⟩
  simp only [hs0, hs1, hs2, hs3, he0, he1, he2, he3, he4, he5, he6] at hnew ⊢
  have HNEW := hide hnew
  have hrow := fun u => row4 u s0 s1 s2 s3 s hs0 hs1 hs2 hs3
  have HROW := hide hrow
  have hmle : fuel ≤ (1024 : Int) := by omega
  have HML := hide hmle
  clear hmin hrow hmle hnew hRN hn hK hk0 hs0 hs1 hs2 hs3 he0 he1 he2 he3 he4 he5 he6
  go_enter Tryd.func6, Tryd.ntmps6
  go_wp2_with fail
  obtain ⟨W0, hW0⟩ : ∃ W, ((w.alloc (Obj.cells #[Value.int IntKind.i64 s0, Value.int IntKind.i64 s1, Value.int IntKind.i64 s2, Value.int IntKind.i64 s3] 24)).alloc (Obj.cells #[Value.int IntKind.i64 e0, Value.int IntKind.i64 e1, Value.int IntKind.i64 e2, Value.int IntKind.i64 e3, Value.int IntKind.i64 e4, Value.int IntKind.i64 e5, Value.int IntKind.i64 e6] 28)).alloc (Obj.cells #[Value.int IntKind.i64 0, Value.int IntKind.i64 0, Value.int IntKind.i64 0, Value.int IntKind.i64 0] 24) = W := ⟨_, rfl⟩
  have hO0 : Only [] w W0 := by rw [← hW0]; exact (((Only.refl [] w).alloc _).alloc _).alloc _
  have hs0 : W0.heap.size = w.heap.size + 1 + 1 + 1 := by rw [← hW0]; simp
  have hrt : W0.rowIs w.heap.size 24 4 (fun j => .int .i64 (s j)) := by
    rw [← hW0]
    exact (((unhide HROW) w).alloc _).alloc _
  have hrr : W0.rowIs (w.heap.size + 1 + 1) 24 4 (fun j => .int .i64 ((fun _ => 0 : Nat → Int) j)) := by
    rw [← hW0]
    have := row4 ((w.alloc (Obj.cells #[Value.int IntKind.i64 s0, Value.int IntKind.i64 s1, Value.int IntKind.i64 s2, Value.int IntKind.i64 s3] 24)).alloc (Obj.cells #[Value.int IntKind.i64 e0, Value.int IntKind.i64 e1, Value.int IntKind.i64 e2, Value.int IntKind.i64 e3, Value.int IntKind.i64 e4, Value.int IntKind.i64 e5, Value.int IntKind.i64 e6] 28)) 0 0 0 0 (fun _ => 0) rfl rfl rfl rfl
    simpa using this
  rw [hW0]
  clear hW0
  refine ((unhide HNEW) W0 hO0).mono ?_
  rintro _ W1 ⟨rfl, hat, hO1⟩
  rw [hs0] at hat ⊢
  obtain ⟨mb, hmb⟩ : ∃ mb, w.heap.size + 1 + 1 + 1 + 1 + 1 = mb := ⟨_, rfl⟩
  rw [hmb] at hat ⊢
  have HB1 : Hid (Below w.heap.size w W1) := hide (hO0.trans hO1).nil_below
  have HRT := hide (hO1.row hrt (by simp))
  have HRR := hide (hO1.row hrr (by simp))
  have HAT := hide hat
  clear hO0 hs0 hrt hrr hO1 hat HROW HNEW
  have hmw : w.heap.size + 1 + 1 < mb := by omega
  clear hmb
  go_wp2_with fail
  go_loopg [14] k0 (fun g v wr => ∃ (n k : Nat) (st : S) (sv : Value), k = g ∧ n + k = k0 ∧ v = .int .i64 n ∧ SAt wr mb e A cap p fan st sv ∧ Below mb W1 wr ∧ st.pl ≤ K ∧ st.L.length ≤ n ∧ runV p e fan k st n = RN)
  case atStart => exact ⟨0, k0, ⟨csOf s, 0, []⟩, _, rfl, by omega, rfl, unhide HAT, ⟨rfl, rfl, rfl, Nat.le_refl _, fun _ _ => rfl⟩, Nat.zero_le _, Nat.le_refl _, unhide HRN⟩
  case round =>
    obtain ⟨n, g, st, sv, rfl, hng, rfl, AT, BW, hpl, hL, hrn⟩ := hrel
    have HG := hide hng
    have RT := unhide HRT
    have RR := unhide HRR
    by_cases hg : g = 0
    · subst hg
      obtain ⟨cs, pl, L⟩ := st
      simp only [runV] at hrn
      subst hrn
      have g0 : decide ((n : Int) < fuel) = false := by have := unhide HK0; simp; omega
      clear hL hpl hng
      have rt := Below.row BW RT (show w.heap.size < mb by omega)
      have rr := Below.row BW RR (show w.heap.size + 1 + 1 < mb by omega)
      obtain ⟨W6, hrun, hO6, hrow6⟩ := copy_row (Pr := Tryd.prog) (rt.drew) 47 47 3 3 (by kernel_rfl) (by kernel_rfl) 0 4 4 ⟨mb, 9, none⟩ 8 8 [.int .i64 (cs 0), .int .i64 (cs 1), .int .i64 (cs 2), .int .i64 (cs 3)] (by rfl) (by
        intro j v hj
        rcases (show j = 0 ∨ j = 1 ∨ j = 2 ∨ j = 3 ∨ 4 ≤ j by omega) with rfl | rfl | rfl | rfl | h4
        · injection hj with hj; subst hj; exact AT.m.cn (j := 0) (by omega)
        · injection hj with hj; subst hj; exact AT.m.cn (j := 1) (by omega)
        · injection hj with hj; subst hj; exact AT.m.cn (j := 2) (by omega)
        · injection hj with hj; subst hj; exact AT.m.cn (j := 3) (by omega)
        · rw [List.getElem?_eq_none (by simpa using h4)] at hj; cases hj) (by simp) (by
        intro v hv
        simp only [List.mem_cons, List.not_mem_nil, or_false] at hv
        rcases hv with rfl | rfl | rfl | rfl <;> rfl)
      have hrun' : (Builtin.copy_ #[47, 47] 3 #[.slice (some ⟨w.heap.size, 0, none⟩) 4 4, .slice (some ⟨mb, 9, none⟩) 8 8]).run Tryd.prog wr.drew = .ok (.int .i64 4) W6 := hrun
      clear hrun
      have x0 : W6.cell? ⟨w.heap.size, 0, none⟩ = some (.int .i64 (cs 0)) := hrow6.cell (by omega)
      have x1 : W6.cell? ⟨w.heap.size, 1, none⟩ = some (.int .i64 (cs 1)) := hrow6.cell (by omega)
      have x2 : W6.cell? ⟨w.heap.size, 2, none⟩ = some (.int .i64 (cs 2)) := hrow6.cell (by omega)
      have x3 : W6.cell? ⟨w.heap.size, 3, none⟩ = some (.int .i64 (cs 3)) := hrow6.cell (by omega)
      have O6 : Only [w.heap.size] wr W6 := ⟨hO6.os, hO6.tape, hO6.output, hO6.size, hO6.block⟩
      have AT6 := AT.m.only O6 (by simp; omega)
      have m18 := AT6.c18
      try simp only at m18
      have rr6 := O6.row rr (by simp; omega)
      have y0 := World.rowIs.cell rr6 (show 0 < 4 by omega)
      have y1 := World.rowIs.cell rr6 (show 1 < 4 by omega)
      have y2 := World.rowIs.cell rr6 (show 2 < 4 by omega)
      have y3 := World.rowIs.cell rr6 (show 3 < 4 by omega)
      have z0 := World.rowIs.frozen rr6 0
      have z1 := World.rowIs.frozen rr6 1
      have z2 := World.rowIs.frozen rr6 2
      have z3 := World.rowIs.frozen rr6 3
      have hs1 : w.heap.size < W6.heap.size := Nat.lt_of_lt_of_le (by have := AT.m.lt; omega) O6.size
      have hs2 : w.heap.size + 1 + 1 < W6.heap.size := Nat.lt_of_lt_of_le (by have := AT.m.lt; omega) O6.size
      have hs3 : mb < W6.heap.size := AT6.lt
      have OWN6 := hide (O6.owns AT.l (fun k hk => by have := own_ge AT.l k hk; simp; omega))
      have HB6 : Hid (Below w.heap.size w W6) := by
        refine (unhide HB1).trans ?_
        exact ⟨O6.os.trans BW.os, O6.tape.trans BW.tape, O6.output.trans BW.output, Nat.le_trans BW.size O6.size, fun i hi => (O6.block i (Nat.lt_of_lt_of_le (show i < W1.heap.size by have := (unhide HB1).size; omega) BW.size) (by simp; omega)).trans (BW.block i (by omega))⟩
      clear hrow6 hO6 O6 AT6 rr6 rt rr
      have hmt : mb ≠ w.heap.size := by omega
      have hmr : mb ≠ w.heap.size + 1 + 1 := by omega
      have hAT := hide AT
      have hBW := hide BW
      have hRT := hide RT
      have hRR := hide RR
      clear AT BW RT RR
      go_wp2_with fail
      go_region
      go_wp2_with fail
      go_region
      go_wp2_with fail
      have OS : ∀ a0 a1 a2 a3 : Value, Only [w.heap.size + 1 + 1] W6 ((((W6.setCell ⟨w.heap.size + 1 + 1, 0, none⟩ a0).setCell ⟨w.heap.size + 1 + 1, 1, none⟩ a1).setCell ⟨w.heap.size + 1 + 1, 2, none⟩ a2).setCell ⟨w.heap.size + 1 + 1, 3, none⟩ a3).drew := fun a0 a1 a2 a3 => (((((Only.refl _ _).setIn (by simp) _).setIn (by simp) _).setIn (by simp) _).setIn (by simp) _).drew
      refine bodyPost_ret (v := .tuple #[.agg #[.int .i64 (cs 0), .int .i64 (cs 1), .int .i64 (cs 2), .int .i64 (cs 3)], sv, .int .i64 (n : Int)]) (by simp [results, Tryd.results6, go_sem, *]) rfl ⟨sv, rfl, ?_, ?_⟩
      · exact owns_weaken ((OS _ _ _ _).owns (unhide OWN6) (fun k hk => by have := own_ge (unhide OWN6) k hk; simp; omega)) (by omega)
      · exact Only.to_below (unhide HB6) (OS _ _ _ _) (fun i hi => by simp at hi; omega) (by omega)
    · obtain ⟨g, rfl⟩ : ∃ k, g = k + 1 := ⟨g - 1, by omega⟩
      have g0 : decide ((n : Int) < fuel) = true := by have := unhide HK0; simp; omega
      have hn1 : n ≤ 1024 := by have := unhide HK0; have := unhide HML; omega
      have HST := hide (step_any AT (unhide HN) (unhide HKK) hpl (by omega))
      obtain ⟨q, hq⟩ : ∃ q, stepV p e fan st = q := ⟨_, rfl⟩
      rw [hq] at HST
      cases q with
      | none =>
        simp only [runV, hq] at hrn
        subst hrn
        obtain ⟨cs, pl, L⟩ := st
        have HAT2 := hide AT
        have HBW2 := hide BW
        have HRT2 := hide RT
        have HRR2 := hide RR
        clear hL hpl hng AT BW RT RR hq hg
        go_wp2_with fail
        refine (unhide HST).mono ?_
        rintro _ wr2 ⟨rfl, sv2, AT, hbb⟩
        have BW := (unhide HBW2).trans (hbb)
        have RT := unhide HRT2
        have RR := unhide HRR2
        simp only [Option.getD_none] at AT
        clear hbb
        have rt := Below.row BW RT (show w.heap.size < mb by omega)
        have rr := Below.row BW RR (show w.heap.size + 1 + 1 < mb by omega)
        obtain ⟨W6, hrun, hO6, hrow6⟩ := copy_row (Pr := Tryd.prog) (rt.drew) 47 47 3 3 (by kernel_rfl) (by kernel_rfl) 0 4 4 ⟨mb, 9, none⟩ 8 8 [.int .i64 (cs 0), .int .i64 (cs 1), .int .i64 (cs 2), .int .i64 (cs 3)] (by rfl) (by
          intro j v hj
          rcases (show j = 0 ∨ j = 1 ∨ j = 2 ∨ j = 3 ∨ 4 ≤ j by omega) with rfl | rfl | rfl | rfl | h4
          · injection hj with hj; subst hj; exact AT.m.cn (j := 0) (by omega)
          · injection hj with hj; subst hj; exact AT.m.cn (j := 1) (by omega)
          · injection hj with hj; subst hj; exact AT.m.cn (j := 2) (by omega)
          · injection hj with hj; subst hj; exact AT.m.cn (j := 3) (by omega)
          · rw [List.getElem?_eq_none (by simpa using h4)] at hj; cases hj) (by simp) (by
          intro v hv
          simp only [List.mem_cons, List.not_mem_nil, or_false] at hv
          rcases hv with rfl | rfl | rfl | rfl <;> rfl)
        have hrun' : (Builtin.copy_ #[47, 47] 3 #[.slice (some ⟨w.heap.size, 0, none⟩) 4 4, .slice (some ⟨mb, 9, none⟩) 8 8]).run Tryd.prog wr2.drew = .ok (.int .i64 4) W6 := hrun
        clear hrun
        have x0 : W6.cell? ⟨w.heap.size, 0, none⟩ = some (.int .i64 (cs 0)) := hrow6.cell (by omega)
        have x1 : W6.cell? ⟨w.heap.size, 1, none⟩ = some (.int .i64 (cs 1)) := hrow6.cell (by omega)
        have x2 : W6.cell? ⟨w.heap.size, 2, none⟩ = some (.int .i64 (cs 2)) := hrow6.cell (by omega)
        have x3 : W6.cell? ⟨w.heap.size, 3, none⟩ = some (.int .i64 (cs 3)) := hrow6.cell (by omega)
        have O6 : Only [w.heap.size] wr2 W6 := ⟨hO6.os, hO6.tape, hO6.output, hO6.size, hO6.block⟩
        have AT6 := AT.m.only O6 (by simp; omega)
        have m18 := AT6.c18
        try simp only at m18
        have rr6 := O6.row rr (by simp; omega)
        have y0 := World.rowIs.cell rr6 (show 0 < 4 by omega)
        have y1 := World.rowIs.cell rr6 (show 1 < 4 by omega)
        have y2 := World.rowIs.cell rr6 (show 2 < 4 by omega)
        have y3 := World.rowIs.cell rr6 (show 3 < 4 by omega)
        have z0 := World.rowIs.frozen rr6 0
        have z1 := World.rowIs.frozen rr6 1
        have z2 := World.rowIs.frozen rr6 2
        have z3 := World.rowIs.frozen rr6 3
        have hs1 : w.heap.size < W6.heap.size := Nat.lt_of_lt_of_le (by have := AT.m.lt; omega) O6.size
        have hs2 : w.heap.size + 1 + 1 < W6.heap.size := Nat.lt_of_lt_of_le (by have := AT.m.lt; omega) O6.size
        have hs3 : mb < W6.heap.size := AT6.lt
        have OWN6 := hide (O6.owns AT.l (fun k hk => by have := own_ge AT.l k hk; simp; omega))
        have HB6 : Hid (Below w.heap.size w W6) := by
          refine (unhide HB1).trans ?_
          exact ⟨O6.os.trans BW.os, O6.tape.trans BW.tape, O6.output.trans BW.output, Nat.le_trans BW.size O6.size, fun i hi => (O6.block i (Nat.lt_of_lt_of_le (show i < W1.heap.size by have := (unhide HB1).size; omega) BW.size) (by simp; omega)).trans (BW.block i (by omega))⟩
        clear hrow6 hO6 O6 AT6 rr6 rt rr
        have hmt : mb ≠ w.heap.size := by omega
        have hmr : mb ≠ w.heap.size + 1 + 1 := by omega
        have hAT := hide AT
        have hBW := hide BW
        have hRT := hide RT
        have hRR := hide RR
        clear AT BW RT RR
        go_wp2_with fail
        go_region
        go_wp2_with fail
        go_region
        go_wp2_with fail
        have OS : ∀ a0 a1 a2 a3 : Value, Only [w.heap.size + 1 + 1] W6 ((((W6.setCell ⟨w.heap.size + 1 + 1, 0, none⟩ a0).setCell ⟨w.heap.size + 1 + 1, 1, none⟩ a1).setCell ⟨w.heap.size + 1 + 1, 2, none⟩ a2).setCell ⟨w.heap.size + 1 + 1, 3, none⟩ a3).drew := fun a0 a1 a2 a3 => (((((Only.refl _ _).setIn (by simp) _).setIn (by simp) _).setIn (by simp) _).setIn (by simp) _).drew
        refine bodyPost_ret (v := .tuple #[.agg #[.int .i64 (cs 0), .int .i64 (cs 1), .int .i64 (cs 2), .int .i64 (cs 3)], sv2, .int .i64 (n : Int)]) (by simp [results, Tryd.results6, go_sem, *]) rfl ⟨sv2, rfl, ?_, ?_⟩
        · exact owns_weaken ((OS _ _ _ _).owns (unhide OWN6) (fun k hk => by have := own_ge (unhide OWN6) k hk; simp; omega)) (by omega)
        · exact Only.to_below (unhide HB6) (OS _ _ _ _) (fun i hi => by simp at hi; omega) (by omega)
      | some st' =>
        simp only [runV, hq] at hrn
        have hstp := step_pl (unhide HKK) hpl hq
        have HX := hide (And.intro hrn (And.intro hstp (And.intro hL BW)))
        have hw1 : IntKind.i64.wrap ((n : Int) + 1) = (n : Int) + 1 := by
          rw [Go.IntWalk.i64_left]
          exact Go.IntWalk.wrap64_in _ (by omega)
        clear AT BW RT RR hq hg hL hpl hng hrn hstp
        go_wp2_with fail
        refine (unhide HST).mono ?_
        rintro _ wr2 ⟨rfl, sv2, hat, hbb⟩
        have HA2 := hide (And.intro hat hbb)
        clear hat hbb
        go_wp2_with fail
        go_roundg g
        case measure => omega
        case rel =>
          obtain ⟨h1, h2, h3, h4⟩ := unhide HX
          have h5 := unhide HG
          have h6 := unhide HA2
          simp only [Option.getD_some] at h6
          exact ⟨n + 1, g, st', sv2, rfl, by omega, by go_num, h6.1, h4.trans h6.2, h2.2.1, by have := h2.2.2; omega, h1⟩
set_option maxRecDepth 100000 in
set_option maxHeartbeats 8000000 in
theorem run_gt {w : World} {pv : Value} {A : Option Addr} {cap K : Nat} {p : List I} {s e : Nat → Int} {fuel fan : Int}
    (hnew : ∀ W, Only [] w W → Calls Tryd.prog 11 #[pv, .agg #[.int .i64 (s 0), .int .i64 (s 1), .int .i64 (s 2), .int .i64 (s 3)], .agg #[.int .i64 (e 0), .int .i64 (e 1), .int .i64 (e 2), .int .i64 (e 3), .int .i64 (e 4), .int .i64 (e 5), .int .i64 (e 6)], .int .i64 fan] W fun r w' => r = .returned (.pointer (some ⟨W.heap.size + 1 + 1, 0, none⟩)) ∧ SAt w' (W.heap.size + 1 + 1) e A cap p fan ⟨csOf s, 0, []⟩ (.slice none 0 0) ∧ Only [] W w')
    (hn : p.length ≤ 1000) (hK : Still p K) (hf : 1024 < fuel) :
    Calls Tryd.prog 6 #[pv, .agg #[.int .i64 (s 0), .int .i64 (s 1), .int .i64 (s 2), .int .i64 (s 3)], .agg #[.int .i64 (e 0), .int .i64 (e 1), .int .i64 (e 2), .int .i64 (e 3), .int .i64 (e 4), .int .i64 (e 5), .int .i64 (e 6)], .int .i64 fuel, .int .i64 fan] w fun r w' =>
      ∃ sv, r = .returned (.tuple #[.agg #[.int .i64 ((runV p e fan (min fuel 1024).toNat ⟨csOf s, 0, []⟩ 0).1.cs 0), .int .i64 ((runV p e fan (min fuel 1024).toNat ⟨csOf s, 0, []⟩ 0).1.cs 1), .int .i64 ((runV p e fan (min fuel 1024).toNat ⟨csOf s, 0, []⟩ 0).1.cs 2), .int .i64 ((runV p e fan (min fuel 1024).toNat ⟨csOf s, 0, []⟩ 0).1.cs 3)], sv, .int .i64 ((runV p e fan (min fuel 1024).toNat ⟨csOf s, 0, []⟩ 0).2 : Int)]) ∧
        w'.ownsRow w.heap.size 38 4 sv (runV p e fan (min fuel 1024).toNat ⟨csOf s, 0, []⟩ 0).1.L.length ((runV p e fan (min fuel 1024).toNat ⟨csOf s, 0, []⟩ 0).1.L.flatMap Em.cells) ∧ Below w.heap.size w w' := by
  obtain ⟨k0, hk0⟩ : ∃ k, (min fuel 1024).toNat = k := ⟨_, rfl⟩
  rw [hk0]
  have hmin : min fuel 1024 = 1024 := by omega
  rw [hmin] at hk0
  obtain ⟨RN, hRN⟩ : ∃ R, runV p e fan k0 ⟨csOf s, 0, []⟩ 0 = R := ⟨_, rfl⟩
  rw [hRN]
  have HRN := hide hRN
  have HN := hide hn
  have HKK := hide hK
  have HK0 := hide hk0
  have hf2 : decide ((1024 : Int) < fuel) = true := by simpa using hf
  have hf3 : ¬ (fuel ≤ 1024) := by omega
  obtain ⟨s0, hs0⟩ : ∃ x, s 0 = x := ⟨_, rfl⟩
  obtain ⟨s1, hs1⟩ : ∃ x, s 1 = x := ⟨_, rfl⟩
  obtain ⟨s2, hs2⟩ : ∃ x, s 2 = x := ⟨_, rfl⟩
  obtain ⟨s3, hs3⟩ : ∃ x, s 3 = x := ⟨_, rfl⟩
  obtain ⟨e0, he0⟩ : ∃ x, e 0 = x := ⟨_, rfl⟩
  obtain ⟨e1, he1⟩ : ∃ x, e 1 = x := ⟨_, rfl⟩
  obtain ⟨e2, he2⟩ : ∃ x, e 2 = x := ⟨_, rfl⟩
  obtain ⟨e3, he3⟩ : ∃ x, e 3 = x := ⟨_, rfl⟩
  obtain ⟨e4, he4⟩ : ∃ x, e 4 = x := ⟨_, rfl⟩
  obtain ⟨e5, he5⟩ : ∃ x, e 5 = x := ⟨_, rfl⟩
  obtain ⟨e6, he6⟩ : ∃ x, e 6 = x := ⟨_, rfl⟩
  simp only [hs0, hs1, hs2, hs3, he0, he1, he2, he3, he4, he5, he6] at hnew ⊢
  have HNEW := hide hnew
  have hrow := fun u => row4 u s0 s1 s2 s3 s hs0 hs1 hs2 hs3
  have HROW := hide hrow
  have hmle : 1024 ≤ (1024 : Int) := by omega
  have HML := hide hmle
  clear hmin hrow hmle hnew hRN hn hK hk0 hs0 hs1 hs2 hs3 he0 he1 he2 he3 he4 he5 he6
  go_enter Tryd.func6, Tryd.ntmps6
  go_wp2_with fail
  obtain ⟨W0, hW0⟩ : ∃ W, ((w.alloc (Obj.cells #[Value.int IntKind.i64 s0, Value.int IntKind.i64 s1, Value.int IntKind.i64 s2, Value.int IntKind.i64 s3] 24)).alloc (Obj.cells #[Value.int IntKind.i64 e0, Value.int IntKind.i64 e1, Value.int IntKind.i64 e2, Value.int IntKind.i64 e3, Value.int IntKind.i64 e4, Value.int IntKind.i64 e5, Value.int IntKind.i64 e6] 28)).alloc (Obj.cells #[Value.int IntKind.i64 0, Value.int IntKind.i64 0, Value.int IntKind.i64 0, Value.int IntKind.i64 0] 24) = W := ⟨_, rfl⟩
  have hO0 : Only [] w W0 := by rw [← hW0]; exact (((Only.refl [] w).alloc _).alloc _).alloc _
  have hs0 : W0.heap.size = w.heap.size + 1 + 1 + 1 := by rw [← hW0]; simp
  have hrt : W0.rowIs w.heap.size 24 4 (fun j => .int .i64 (s j)) := by
    rw [← hW0]
    exact (((unhide HROW) w).alloc _).alloc _
  have hrr : W0.rowIs (w.heap.size + 1 + 1) 24 4 (fun j => .int .i64 ((fun _ => 0 : Nat → Int) j)) := by
    rw [← hW0]
    have := row4 ((w.alloc (Obj.cells #[Value.int IntKind.i64 s0, Value.int IntKind.i64 s1, Value.int IntKind.i64 s2, Value.int IntKind.i64 s3] 24)).alloc (Obj.cells #[Value.int IntKind.i64 e0, Value.int IntKind.i64 e1, Value.int IntKind.i64 e2, Value.int IntKind.i64 e3, Value.int IntKind.i64 e4, Value.int IntKind.i64 e5, Value.int IntKind.i64 e6] 28)) 0 0 0 0 (fun _ => 0) rfl rfl rfl rfl
    simpa using this
  rw [hW0]
  clear hW0
  refine ((unhide HNEW) W0 hO0).mono ?_
  rintro _ W1 ⟨rfl, hat, hO1⟩
  rw [hs0] at hat ⊢
  obtain ⟨mb, hmb⟩ : ∃ mb, w.heap.size + 1 + 1 + 1 + 1 + 1 = mb := ⟨_, rfl⟩
  rw [hmb] at hat ⊢
  have HB1 : Hid (Below w.heap.size w W1) := hide (hO0.trans hO1).nil_below
  have HRT := hide (hO1.row hrt (by simp))
  have HRR := hide (hO1.row hrr (by simp))
  have HAT := hide hat
  clear hO0 hs0 hrt hrr hO1 hat HROW HNEW
  have hmw : w.heap.size + 1 + 1 < mb := by omega
  clear hmb
  go_wp2_with fail
  go_loopg [14] k0 (fun g v wr => ∃ (n k : Nat) (st : S) (sv : Value), k = g ∧ n + k = k0 ∧ v = .int .i64 n ∧ SAt wr mb e A cap p fan st sv ∧ Below mb W1 wr ∧ st.pl ≤ K ∧ st.L.length ≤ n ∧ runV p e fan k st n = RN)
  case atStart => exact ⟨0, k0, ⟨csOf s, 0, []⟩, _, rfl, by omega, rfl, unhide HAT, ⟨rfl, rfl, rfl, Nat.le_refl _, fun _ _ => rfl⟩, Nat.zero_le _, Nat.le_refl _, unhide HRN⟩
  case round =>
    obtain ⟨n, g, st, sv, rfl, hng, rfl, AT, BW, hpl, hL, hrn⟩ := hrel
    have HG := hide hng
    have RT := unhide HRT
    have RR := unhide HRR
    by_cases hg : g = 0
    · subst hg
      obtain ⟨cs, pl, L⟩ := st
      simp only [runV] at hrn
      subst hrn
      have g0 : decide ((n : Int) < 1024) = false := by have := unhide HK0; simp; omega
      clear hL hpl hng
      have rt := Below.row BW RT (show w.heap.size < mb by omega)
      have rr := Below.row BW RR (show w.heap.size + 1 + 1 < mb by omega)
      obtain ⟨W6, hrun, hO6, hrow6⟩ := copy_row (Pr := Tryd.prog) (rt.drew) 47 47 3 3 (by kernel_rfl) (by kernel_rfl) 0 4 4 ⟨mb, 9, none⟩ 8 8 [.int .i64 (cs 0), .int .i64 (cs 1), .int .i64 (cs 2), .int .i64 (cs 3)] (by rfl) (by
        intro j v hj
        rcases (show j = 0 ∨ j = 1 ∨ j = 2 ∨ j = 3 ∨ 4 ≤ j by omega) with rfl | rfl | rfl | rfl | h4
        · injection hj with hj; subst hj; exact AT.m.cn (j := 0) (by omega)
        · injection hj with hj; subst hj; exact AT.m.cn (j := 1) (by omega)
        · injection hj with hj; subst hj; exact AT.m.cn (j := 2) (by omega)
        · injection hj with hj; subst hj; exact AT.m.cn (j := 3) (by omega)
        · rw [List.getElem?_eq_none (by simpa using h4)] at hj; cases hj) (by simp) (by
        intro v hv
        simp only [List.mem_cons, List.not_mem_nil, or_false] at hv
        rcases hv with rfl | rfl | rfl | rfl <;> rfl)
      have hrun' : (Builtin.copy_ #[47, 47] 3 #[.slice (some ⟨w.heap.size, 0, none⟩) 4 4, .slice (some ⟨mb, 9, none⟩) 8 8]).run Tryd.prog wr.drew = .ok (.int .i64 4) W6 := hrun
      clear hrun
      have x0 : W6.cell? ⟨w.heap.size, 0, none⟩ = some (.int .i64 (cs 0)) := hrow6.cell (by omega)
      have x1 : W6.cell? ⟨w.heap.size, 1, none⟩ = some (.int .i64 (cs 1)) := hrow6.cell (by omega)
      have x2 : W6.cell? ⟨w.heap.size, 2, none⟩ = some (.int .i64 (cs 2)) := hrow6.cell (by omega)
      have x3 : W6.cell? ⟨w.heap.size, 3, none⟩ = some (.int .i64 (cs 3)) := hrow6.cell (by omega)
      have O6 : Only [w.heap.size] wr W6 := ⟨hO6.os, hO6.tape, hO6.output, hO6.size, hO6.block⟩
      have AT6 := AT.m.only O6 (by simp; omega)
      have m18 := AT6.c18
      try simp only at m18
      have rr6 := O6.row rr (by simp; omega)
      have y0 := World.rowIs.cell rr6 (show 0 < 4 by omega)
      have y1 := World.rowIs.cell rr6 (show 1 < 4 by omega)
      have y2 := World.rowIs.cell rr6 (show 2 < 4 by omega)
      have y3 := World.rowIs.cell rr6 (show 3 < 4 by omega)
      have z0 := World.rowIs.frozen rr6 0
      have z1 := World.rowIs.frozen rr6 1
      have z2 := World.rowIs.frozen rr6 2
      have z3 := World.rowIs.frozen rr6 3
      have hs1 : w.heap.size < W6.heap.size := Nat.lt_of_lt_of_le (by have := AT.m.lt; omega) O6.size
      have hs2 : w.heap.size + 1 + 1 < W6.heap.size := Nat.lt_of_lt_of_le (by have := AT.m.lt; omega) O6.size
      have hs3 : mb < W6.heap.size := AT6.lt
      have OWN6 := hide (O6.owns AT.l (fun k hk => by have := own_ge AT.l k hk; simp; omega))
      have HB6 : Hid (Below w.heap.size w W6) := by
        refine (unhide HB1).trans ?_
        exact ⟨O6.os.trans BW.os, O6.tape.trans BW.tape, O6.output.trans BW.output, Nat.le_trans BW.size O6.size, fun i hi => (O6.block i (Nat.lt_of_lt_of_le (show i < W1.heap.size by have := (unhide HB1).size; omega) BW.size) (by simp; omega)).trans (BW.block i (by omega))⟩
      clear hrow6 hO6 O6 AT6 rr6 rt rr
      have hmt : mb ≠ w.heap.size := by omega
      have hmr : mb ≠ w.heap.size + 1 + 1 := by omega
      have hAT := hide AT
      have hBW := hide BW
      have hRT := hide RT
      have hRR := hide RR
      clear AT BW RT RR
      go_wp2_with fail
      go_region
      go_wp2_with fail
      go_region
      go_wp2_with fail
      have OS : ∀ a0 a1 a2 a3 : Value, Only [w.heap.size + 1 + 1] W6 ((((W6.setCell ⟨w.heap.size + 1 + 1, 0, none⟩ a0).setCell ⟨w.heap.size + 1 + 1, 1, none⟩ a1).setCell ⟨w.heap.size + 1 + 1, 2, none⟩ a2).setCell ⟨w.heap.size + 1 + 1, 3, none⟩ a3).drew := fun a0 a1 a2 a3 => (((((Only.refl _ _).setIn (by simp) _).setIn (by simp) _).setIn (by simp) _).setIn (by simp) _).drew
      refine bodyPost_ret (v := .tuple #[.agg #[.int .i64 (cs 0), .int .i64 (cs 1), .int .i64 (cs 2), .int .i64 (cs 3)], sv, .int .i64 (n : Int)]) (by simp [results, Tryd.results6, go_sem, *]) rfl ⟨sv, rfl, ?_, ?_⟩
      · exact owns_weaken ((OS _ _ _ _).owns (unhide OWN6) (fun k hk => by have := own_ge (unhide OWN6) k hk; simp; omega)) (by omega)
      · exact Only.to_below (unhide HB6) (OS _ _ _ _) (fun i hi => by simp at hi; omega) (by omega)
    · obtain ⟨g, rfl⟩ : ∃ k, g = k + 1 := ⟨g - 1, by omega⟩
      have g0 : decide ((n : Int) < 1024) = true := by have := unhide HK0; simp; omega
      have hn1 : n ≤ 1024 := by have := unhide HK0; have := unhide HML; omega
      have HST := hide (step_any AT (unhide HN) (unhide HKK) hpl (by omega))
      obtain ⟨q, hq⟩ : ∃ q, stepV p e fan st = q := ⟨_, rfl⟩
      rw [hq] at HST
      cases q with
      | none =>
        simp only [runV, hq] at hrn
        subst hrn
        obtain ⟨cs, pl, L⟩ := st
        have HAT2 := hide AT
        have HBW2 := hide BW
        have HRT2 := hide RT
        have HRR2 := hide RR
        clear hL hpl hng AT BW RT RR hq hg
        go_wp2_with fail
        refine (unhide HST).mono ?_
        rintro _ wr2 ⟨rfl, sv2, AT, hbb⟩
        have BW := (unhide HBW2).trans (hbb)
        have RT := unhide HRT2
        have RR := unhide HRR2
        simp only [Option.getD_none] at AT
        clear hbb
        have rt := Below.row BW RT (show w.heap.size < mb by omega)
        have rr := Below.row BW RR (show w.heap.size + 1 + 1 < mb by omega)
        obtain ⟨W6, hrun, hO6, hrow6⟩ := copy_row (Pr := Tryd.prog) (rt.drew) 47 47 3 3 (by kernel_rfl) (by kernel_rfl) 0 4 4 ⟨mb, 9, none⟩ 8 8 [.int .i64 (cs 0), .int .i64 (cs 1), .int .i64 (cs 2), .int .i64 (cs 3)] (by rfl) (by
          intro j v hj
          rcases (show j = 0 ∨ j = 1 ∨ j = 2 ∨ j = 3 ∨ 4 ≤ j by omega) with rfl | rfl | rfl | rfl | h4
          · injection hj with hj; subst hj; exact AT.m.cn (j := 0) (by omega)
          · injection hj with hj; subst hj; exact AT.m.cn (j := 1) (by omega)
          · injection hj with hj; subst hj; exact AT.m.cn (j := 2) (by omega)
          · injection hj with hj; subst hj; exact AT.m.cn (j := 3) (by omega)
          · rw [List.getElem?_eq_none (by simpa using h4)] at hj; cases hj) (by simp) (by
          intro v hv
          simp only [List.mem_cons, List.not_mem_nil, or_false] at hv
          rcases hv with rfl | rfl | rfl | rfl <;> rfl)
        have hrun' : (Builtin.copy_ #[47, 47] 3 #[.slice (some ⟨w.heap.size, 0, none⟩) 4 4, .slice (some ⟨mb, 9, none⟩) 8 8]).run Tryd.prog wr2.drew = .ok (.int .i64 4) W6 := hrun
        clear hrun
        have x0 : W6.cell? ⟨w.heap.size, 0, none⟩ = some (.int .i64 (cs 0)) := hrow6.cell (by omega)
        have x1 : W6.cell? ⟨w.heap.size, 1, none⟩ = some (.int .i64 (cs 1)) := hrow6.cell (by omega)
        have x2 : W6.cell? ⟨w.heap.size, 2, none⟩ = some (.int .i64 (cs 2)) := hrow6.cell (by omega)
        have x3 : W6.cell? ⟨w.heap.size, 3, none⟩ = some (.int .i64 (cs 3)) := hrow6.cell (by omega)
        have O6 : Only [w.heap.size] wr2 W6 := ⟨hO6.os, hO6.tape, hO6.output, hO6.size, hO6.block⟩
        have AT6 := AT.m.only O6 (by simp; omega)
        have m18 := AT6.c18
        try simp only at m18
        have rr6 := O6.row rr (by simp; omega)
        have y0 := World.rowIs.cell rr6 (show 0 < 4 by omega)
        have y1 := World.rowIs.cell rr6 (show 1 < 4 by omega)
        have y2 := World.rowIs.cell rr6 (show 2 < 4 by omega)
        have y3 := World.rowIs.cell rr6 (show 3 < 4 by omega)
        have z0 := World.rowIs.frozen rr6 0
        have z1 := World.rowIs.frozen rr6 1
        have z2 := World.rowIs.frozen rr6 2
        have z3 := World.rowIs.frozen rr6 3
        have hs1 : w.heap.size < W6.heap.size := Nat.lt_of_lt_of_le (by have := AT.m.lt; omega) O6.size
        have hs2 : w.heap.size + 1 + 1 < W6.heap.size := Nat.lt_of_lt_of_le (by have := AT.m.lt; omega) O6.size
        have hs3 : mb < W6.heap.size := AT6.lt
        have OWN6 := hide (O6.owns AT.l (fun k hk => by have := own_ge AT.l k hk; simp; omega))
        have HB6 : Hid (Below w.heap.size w W6) := by
          refine (unhide HB1).trans ?_
          exact ⟨O6.os.trans BW.os, O6.tape.trans BW.tape, O6.output.trans BW.output, Nat.le_trans BW.size O6.size, fun i hi => (O6.block i (Nat.lt_of_lt_of_le (show i < W1.heap.size by have := (unhide HB1).size; omega) BW.size) (by simp; omega)).trans (BW.block i (by omega))⟩
        clear hrow6 hO6 O6 AT6 rr6 rt rr
        have hmt : mb ≠ w.heap.size := by omega
        have hmr : mb ≠ w.heap.size + 1 + 1 := by omega
        have hAT := hide AT
        have hBW := hide BW
        have hRT := hide RT
        have hRR := hide RR
        clear AT BW RT RR
        go_wp2_with fail
        go_region
        go_wp2_with fail
        go_region
        go_wp2_with fail
        have OS : ∀ a0 a1 a2 a3 : Value, Only [w.heap.size + 1 + 1] W6 ((((W6.setCell ⟨w.heap.size + 1 + 1, 0, none⟩ a0).setCell ⟨w.heap.size + 1 + 1, 1, none⟩ a1).setCell ⟨w.heap.size + 1 + 1, 2, none⟩ a2).setCell ⟨w.heap.size + 1 + 1, 3, none⟩ a3).drew := fun a0 a1 a2 a3 => (((((Only.refl _ _).setIn (by simp) _).setIn (by simp) _).setIn (by simp) _).setIn (by simp) _).drew
        refine bodyPost_ret (v := .tuple #[.agg #[.int .i64 (cs 0), .int .i64 (cs 1), .int .i64 (cs 2), .int .i64 (cs 3)], sv2, .int .i64 (n : Int)]) (by simp [results, Tryd.results6, go_sem, *]) rfl ⟨sv2, rfl, ?_, ?_⟩
        · exact owns_weaken ((OS _ _ _ _).owns (unhide OWN6) (fun k hk => by have := own_ge (unhide OWN6) k hk; simp; omega)) (by omega)
        · exact Only.to_below (unhide HB6) (OS _ _ _ _) (fun i hi => by simp at hi; omega) (by omega)
      | some st' =>
        simp only [runV, hq] at hrn
        have hstp := step_pl (unhide HKK) hpl hq
        have HX := hide (And.intro hrn (And.intro hstp (And.intro hL BW)))
        have hw1 : IntKind.i64.wrap ((n : Int) + 1) = (n : Int) + 1 := by
          rw [Go.IntWalk.i64_left]
          exact Go.IntWalk.wrap64_in _ (by omega)
        clear AT BW RT RR hq hg hL hpl hng hrn hstp
        go_wp2_with fail
        refine (unhide HST).mono ?_
        rintro _ wr2 ⟨rfl, sv2, hat, hbb⟩
        have HA2 := hide (And.intro hat hbb)
        clear hat hbb
        go_wp2_with fail
        go_roundg g
        case measure => omega
        case rel =>
          obtain ⟨h1, h2, h3, h4⟩ := unhide HX
          have h5 := unhide HG
          have h6 := unhide HA2
          simp only [Option.getD_some] at h6
          exact ⟨n + 1, g, st', sv2, rfl, by omega, by go_num, h6.1, h4.trans h6.2, h2.2.1, by have := h2.2.2; omega, h1⟩
end Go.Proofs.YtipllcepoijbiaaDoor
