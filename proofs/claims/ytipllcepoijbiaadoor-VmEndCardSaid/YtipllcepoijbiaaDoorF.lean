/-
  A step where there is an instruction.
-/
import Derived.Test.YtipllcepoijbiaaDoorE
import Derived.Deep.DeepCutAuto
namespace Go.Proofs.YtipllcepoijbiaaDoor
open Go.RowKit Go.Deep
set_option linter.unusedVariables false
set_option linter.unusedSimpArgs false
section
variable {w : World} {mb : Nat} {e : Nat → Int} {A : Option Addr} {cap : Nat} {p : List I} {fan : Int} {s : S} {sv : Value}
set_option maxRecDepth 100000 in
set_option maxHeartbeats 4000000 in
theorem step_bad (h : SAt w mb e A cap p fan s sv) (hn : p.length ≤ 1000) {o a bb c d : Int} (hp : p[s.pl]? = some ⟨o, a, bb, c, d⟩) (hm : mayV ⟨o, a, bb, c, d⟩ (p.length : Int) ≠ 0) :
    Calls Tryd.prog 7 #[.pointer (some ⟨mb, 0, none⟩)] w fun r w' => r = .returned (.bool false) ∧ Only [] w w' := by
  obtain ⟨m, hmay⟩ : ∃ m, mayV ⟨o, a, bb, c, d⟩ (p.length : Int) = m := ⟨_, rfl⟩
  have hm0 : (m == 0) = false := by rw [hmay] at hm; simpa using hm
  have hm1 : (m != 0) = true := by rw [bne, hm0]; rfl
  clear hm
  obtain ⟨cs, pl, L⟩ := s
  simp only at hp
  have hpl : pl < p.length := (List.getElem?_eq_some_iff.1 hp).1
  obtain ⟨b, off, rfl, hbl, x0, x1, x2, x3, x4⟩ := h.p pl _ hp
  simp only at x0 x1 x2 x3 x4
  have HS := hide h
  have hlt := h.lt
  have m7 := h.m.c7
  have m17 := h.m.c17
  simp only at m7 m17
  have HN := hide hn
  have HPL := hide hpl
  have d1 : decide ((p.length : Int) ≤ (pl : Int)) = false := by simp; omega
  have d2 : decide (p.length ≤ pl) = false := by simp; omega
  have d3 : decide ((pl : Int) < (p.length : Int)) = true := by simp; omega
  have d4 : decide (pl < p.length) = true := by simp; omega
  have d5 : decide (0 ≤ (pl : Int)) = true := by simp
  have d6 : (pl : Int) < (p.length : Int) := by omega
  clear h hn hp hpl
  go_enter Tryd.func7, Tryd.ntmps7
  go_wp2_with fail
  go_quiet (fail)
  have hh1 : (w.drewN nq).heap.size = w.heap.size := rfl
  have HS1 : Hid (SAt (w.drewN nq) mb e (some ⟨b, off, none⟩) cap p fan ⟨cs, pl, L⟩ sv ∧ Only [] w (w.drewN nq)) := ⟨(unhide HS).only0 ((Only.refl [] w).drewN nq), (Only.refl [] w).drewN nq⟩
  have y0 : (w.drewN nq).cell? ⟨b, off + pl * 5, none⟩ = some (.int .i64 o) := x0
  have y1 : (w.drewN nq).cell? ⟨b, off + pl * 5 + 1, none⟩ = some (.int .i64 a) := x1
  have y2 : (w.drewN nq).cell? ⟨b, off + pl * 5 + 2, none⟩ = some (.int .i64 bb) := x2
  have y3 : (w.drewN nq).cell? ⟨b, off + pl * 5 + 3, none⟩ = some (.int .i64 c) := x3
  have y4 : (w.drewN nq).cell? ⟨b, off + pl * 5 + 4, none⟩ = some (.int .i64 d) := x4
  have n7 : (w.drewN nq).cell? ⟨mb, 7, none⟩ = some (.slice (some ⟨b, off, none⟩) p.length cap) := m7
  have n17 : (w.drewN nq).cell? ⟨mb, 17, none⟩ = some (.int .i64 (pl : Int)) := m17
  rw [← hh1] at hlt hbl
  clear hh1 x0 x1 x2 x3 x4 m7 m17
  generalize w.drewN nq = w1 at *
  go_wp2_with fail
  go_region
  generalize hxb : w1.heap.size = xb
  rw [hxb] at hlt hbl
  obtain ⟨W2, hW2⟩ : ∃ W2, (w1.alloc (Obj.cells #[Value.int IntKind.i64 o, Value.int IntKind.i64 a, Value.int IntKind.i64 bb, Value.int IntKind.i64 c, Value.int IntKind.i64 d] 33)).drew = W2 := ⟨_, rfl⟩
  have hO2 : Only [] w1 W2 := by rw [← hW2]; exact ((Only.refl [] w1).alloc _).drew
  have HS2 : Hid (SAt W2 mb e (some ⟨b, off, none⟩) cap p fan ⟨cs, pl, L⟩ sv ∧ Only [] w W2) := ⟨(unhide HS1).1.only0 hO2, (unhide HS1).2.trans hO2⟩
  have hsz : W2.heap.size = xb + 1 := by rw [← hW2, ← hxb]; simp
  have hxl : xb < W2.heap.size := by omega
  have hmx : mb ≠ xb := by omega
  have hcl2 : ∀ (q : Nat) (v : Value), (#[Value.int IntKind.i64 o, Value.int IntKind.i64 a, Value.int IntKind.i64 bb, Value.int IntKind.i64 c, Value.int IntKind.i64 d] : Array Value)[q]? = some v → W2.cell? ⟨xb, q, none⟩ = some v := by
    intro q v hq
    rw [← hW2, ← hxb]
    have := cell_of_row (w1.alloc (Obj.cells #[Value.int IntKind.i64 o, Value.int IntKind.i64 a, Value.int IntKind.i64 bb, Value.int IntKind.i64 c, Value.int IntKind.i64 d] 33)) w1.heap.size q _ 33 (0, 0) (heap_alloc_last w1 _)
    exact this.trans hq
  have z0 := hcl2 0 _ rfl
  have z1 := hcl2 1 _ rfl
  have z2 := hcl2 2 _ rfl
  have z3 := hcl2 3 _ rfl
  have z4 := hcl2 4 _ rfl
  have k7 : W2.cell? ⟨mb, 7, none⟩ = some (.slice (some ⟨b, off, none⟩) p.length cap) := (unhide HS2).1.m.c7
  have k17 : W2.cell? ⟨mb, 17, none⟩ = some (.int .i64 (pl : Int)) := (unhide HS2).1.m.c17
  have HC : Hid (Calls Tryd.prog 12 #[.agg #[.int .i64 o, .int .i64 a, .int .i64 bb, .int .i64 c, .int .i64 d], .int .i64 (p.length : Int)] W2.drew fun e w' => e = .returned (.int .i64 (mayV ⟨o, a, bb, c, d⟩ (p.length : Int))) ∧ Only [] W2.drew w') := may_any ((unhide HS2).1.t.only (Only.refl [] _ |>.drew) (by simp))
  rw [hW2]
  have hlm : mb < W2.heap.size := by omega
  clear hW2 hcl2 hO2 y0 y1 y2 y3 y4 n7 n17 hlt hbl hsz hxb HS HS1 d1 d2 d3 d4 d5 d6
  clear w1
  go_upto_region 4 with fail
  have hS0 : W2.drew.cell? ⟨xb, 0, none⟩ = some (.int .i64 o) ∧ W2.drew.cell? ⟨xb, 1, none⟩ = some (.int .i64 a) ∧ W2.drew.cell? ⟨xb, 2, none⟩ = some (.int .i64 bb) ∧ W2.drew.cell? ⟨xb, 3, none⟩ = some (.int .i64 c) ∧ W2.drew.cell? ⟨xb, 4, none⟩ = some (.int .i64 d) ∧ W2.drew.cell? ⟨mb, 7, none⟩ = some (.slice (some ⟨b, off, none⟩) p.length cap) := ⟨z0, z1, z2, z3, z4, k7⟩
  refine wp_region_T (fun w' => w'.cell? ⟨xb, 0, none⟩ = some (.int .i64 o) ∧ w'.cell? ⟨xb, 1, none⟩ = some (.int .i64 a) ∧ w'.cell? ⟨xb, 2, none⟩ = some (.int .i64 bb) ∧ w'.cell? ⟨xb, 3, none⟩ = some (.int .i64 c) ∧ w'.cell? ⟨xb, 4, none⟩ = some (.int .i64 d) ∧ w'.cell? ⟨mb, 7, none⟩ = some (.slice (some ⟨b, off, none⟩) p.length cap)) 12 13 rfl (by kernel_rfl) (by kernel_rfl) (fun hN hcl => ?_)
  refine wpAnyT_take (i := 0) (v := ?_) (some 28) (by kernel_rfl) (by kernel_rfl) (by kernel_rfl) (by kernel_rfl) hN (by decide) hcl (fun _ _ _ h => h) (fun oi hoi => ?hy1) hS0 ?rs1
  case hy1 =>
    simp only [List.getElem?_toArray, List.getElem?_cons_succ, List.getElem?_cons_zero, Option.some.injEq] at hoi
    subst hoi
    refine ⟨rfl, Or.inl ⟨by rfl, ?_⟩⟩
    intro w hSw
    try dsimp only at hSw
    go_simp
    try with_reducible rfl
  clear hcl
  intro hcl
  try simp only [Act.put, List.setIfInBounds_toArray, List.set_cons_zero, List.set_cons_succ]
  refine wpAnyT_take (i := 1) (v := ?_) (some 29) (by kernel_rfl) (by kernel_rfl) (by kernel_rfl) (by kernel_rfl) hN (by decide) hcl (fun _ _ _ h => h) (fun oi hoi => ?hy2) hS0 ?rs2
  case hy2 =>
    simp only [List.getElem?_toArray, List.getElem?_cons_succ, List.getElem?_cons_zero, Option.some.injEq] at hoi
    subst hoi
    refine ⟨rfl, Or.inl ⟨by rfl, ?_⟩⟩
    intro w hSw
    try dsimp only at hSw
    go_simp
    try with_reducible rfl
  clear hcl
  intro hcl
  try simp only [Act.put, List.setIfInBounds_toArray, List.set_cons_zero, List.set_cons_succ]
  refine wpAnyT_take (i := 2) (v := ?_) (some 30) (by kernel_rfl) (by kernel_rfl) (by kernel_rfl) (by kernel_rfl) hN (by decide) hcl (fun _ _ _ h => h) (fun oi hoi => ?hy3) hS0 ?rs3
  case hy3 =>
    simp only [List.getElem?_toArray, List.getElem?_cons_succ, List.getElem?_cons_zero, Option.some.injEq] at hoi
    subst hoi
    refine ⟨rfl, Or.inl ⟨by rfl, ?_⟩⟩
    intro w hSw
    try dsimp only at hSw
    go_simp
    try with_reducible rfl
  clear hcl
  intro hcl
  try simp only [Act.put, List.setIfInBounds_toArray, List.set_cons_zero, List.set_cons_succ]
  refine wpAnyT_take (i := 3) (v := ?_) (some 31) (by kernel_rfl) (by kernel_rfl) (by kernel_rfl) (by kernel_rfl) hN (by decide) hcl (fun _ _ _ h => h) (fun oi hoi => ?hy4) hS0 ?rs4
  case hy4 =>
    simp only [List.getElem?_toArray, List.getElem?_cons_succ, List.getElem?_cons_zero, Option.some.injEq] at hoi
    subst hoi
    refine ⟨rfl, Or.inl ⟨by rfl, ?_⟩⟩
    intro w hSw
    try dsimp only at hSw
    go_simp
    try with_reducible rfl
  clear hcl
  intro hcl
  try simp only [Act.put, List.setIfInBounds_toArray, List.set_cons_zero, List.set_cons_succ]
  refine wpAnyT_take (i := 4) (v := ?_) (some 32) (by kernel_rfl) (by kernel_rfl) (by kernel_rfl) (by kernel_rfl) hN (by decide) hcl (fun _ _ _ h => h) (fun oi hoi => ?hy5) hS0 ?rs5
  case hy5 =>
    simp only [List.getElem?_toArray, List.getElem?_cons_succ, List.getElem?_cons_zero, Option.some.injEq] at hoi
    subst hoi
    refine ⟨rfl, Or.inl ⟨by rfl, ?_⟩⟩
    intro w hSw
    try dsimp only at hSw
    go_simp
    try with_reducible rfl
  clear hcl
  intro hcl
  try simp only [Act.put, List.setIfInBounds_toArray, List.set_cons_zero, List.set_cons_succ]
  refine wpAnyT_take (i := 5) (v := ?_) (some 33) (by kernel_rfl) (by kernel_rfl) (by kernel_rfl) (by kernel_rfl) hN (by decide) hcl (fun _ _ _ h => h) (fun oi hoi => ?hy6) hS0 ?rs6
  case hy6 =>
    simp only [List.getElem?_toArray, List.getElem?_cons_succ, List.getElem?_cons_zero, Option.some.injEq] at hoi
    subst hoi
    refine ⟨rfl, Or.inl ⟨by rfl, ?_⟩⟩
    intro w hSw
    try dsimp only at hSw
    go_simp
    try with_reducible rfl
  clear hcl
  intro hcl
  try simp only [Act.put, List.setIfInBounds_toArray, List.set_cons_zero, List.set_cons_succ]
  refine wpAnyT_one (i := 6) (by kernel_rfl) (by kernel_rfl) hcl (fun oi hoi K' hK' => ?_)
  clear hcl
  simp only [List.getElem?_toArray, List.getElem?_cons_succ, List.getElem?_cons_zero, Option.some.injEq] at hoi
  subst hoi
  go_simp
  refine (unhide HC).mono ?_
  rintro _ W3 ⟨rfl, k⟩
  have hS1 : W3.cell? ⟨xb, 0, none⟩ = some (.int .i64 o) ∧ W3.cell? ⟨xb, 1, none⟩ = some (.int .i64 a) ∧ W3.cell? ⟨xb, 2, none⟩ = some (.int .i64 bb) ∧ W3.cell? ⟨xb, 3, none⟩ = some (.int .i64 c) ∧ W3.cell? ⟨xb, 4, none⟩ = some (.int .i64 d) ∧ W3.cell? ⟨mb, 7, none⟩ = some (.slice (some ⟨b, off, none⟩) p.length cap) := ⟨(k.cell (p := ⟨xb, 0, none⟩) hxl (by simp)).trans z0, (k.cell (p := ⟨xb, 1, none⟩) hxl (by simp)).trans z1, (k.cell (p := ⟨xb, 2, none⟩) hxl (by simp)).trans z2, (k.cell (p := ⟨xb, 3, none⟩) hxl (by simp)).trans z3, (k.cell (p := ⟨xb, 4, none⟩) hxl (by simp)).trans z4, (k.cell (p := ⟨mb, 7, none⟩) hlm (by simp)).trans k7⟩
  have HS3 : Hid (SAt W3 mb e (some ⟨b, off, none⟩) cap p fan ⟨cs, pl, L⟩ sv ∧ Only [] w W3) := ⟨(unhide HS2).1.only0 (((Only.refl [] W2).drew).trans k), (unhide HS2).2.trans (((Only.refl [] W2).drew).trans k)⟩
  have hxl3 : xb < W3.heap.size := Nat.lt_of_lt_of_le hxl k.size
  have hlm3 : mb < W3.heap.size := Nat.lt_of_lt_of_le hlm k.size
  clear hS0 k z0 z1 z2 z3 z4 k7 k17 hxl hlm
  try simp only [hmay]
  refine (unhide hK') _ _ (.inr hS1) (fun hcl => ?_)
  clear hK' K'
  try simp only [Act.put, List.setIfInBounds_toArray, List.set_cons_zero, List.set_cons_succ]
  refine wpAnyT_take (i := 7) (v := ?_) (some 35) (by kernel_rfl) (by kernel_rfl) (by kernel_rfl) (by kernel_rfl) hN (by decide) hcl (fun _ _ _ h => h) (fun oi hoi => ?hy7) hS1 ?rs7
  case hy7 =>
    simp only [List.getElem?_toArray, List.getElem?_cons_succ, List.getElem?_cons_zero, Option.some.injEq] at hoi
    subst hoi
    refine ⟨rfl, Or.inl ⟨by rfl, ?_⟩⟩
    intro w hSw
    try dsimp only at hSw
    go_simp
    try with_reducible rfl
  clear hcl
  intro hcl
  try simp only [Act.put, List.setIfInBounds_toArray, List.set_cons_zero, List.set_cons_succ]
  try rw [hm1]
  refine wpAnyT_take (i := 8) (v := ?_) (some 36) (by kernel_rfl) (by kernel_rfl) (by kernel_rfl) (by kernel_rfl) hN (by decide) hcl (fun _ _ _ h => h) (fun oi hoi => ?hy8) hS1 ?rs8
  case hy8 =>
    simp only [List.getElem?_toArray, List.getElem?_cons_succ, List.getElem?_cons_zero, Option.some.injEq] at hoi
    subst hoi
    refine ⟨rfl, Or.inl ⟨by rfl, ?_⟩⟩
    intro w hSw
    try dsimp only at hSw
    go_simp
    try with_reducible rfl
  clear hcl
  intro hcl
  try simp only [Act.put, List.setIfInBounds_toArray, List.set_cons_zero, List.set_cons_succ]
  refine wpAnyT_take (i := 9) (v := undef) (some 37) (by kernel_rfl) (by kernel_rfl) (by kernel_rfl) (by kernel_rfl) hN (by decide) hcl (fun _ _ _ h => h) (fun oi hoi => ?hy9) hS1 ?rs9
  case hy9 =>
    simp only [List.getElem?_toArray, List.getElem?_cons_succ, List.getElem?_cons_zero, Option.some.injEq] at hoi
    subst hoi
    exact ⟨rfl, Or.inr ⟨by rfl, rfl⟩⟩
  clear hcl
  intro hcl
  try simp only [Act.put, List.setIfInBounds_toArray, List.set_cons_zero, List.set_cons_succ]
  refine wpAnyT_take (i := 10) (v := undef) (some 38) (by kernel_rfl) (by kernel_rfl) (by kernel_rfl) (by kernel_rfl) hN (by decide) hcl (fun _ _ _ h => h) (fun oi hoi => ?hy10) hS1 ?rs10
  case hy10 =>
    simp only [List.getElem?_toArray, List.getElem?_cons_succ, List.getElem?_cons_zero, Option.some.injEq] at hoi
    subst hoi
    exact ⟨rfl, Or.inr ⟨by rfl, rfl⟩⟩
  clear hcl
  intro hcl
  try simp only [Act.put, List.setIfInBounds_toArray, List.set_cons_zero, List.set_cons_succ]
  refine wpAnyT_take (i := 11) (v := undef) (some 39) (by kernel_rfl) (by kernel_rfl) (by kernel_rfl) (by kernel_rfl) hN (by decide) hcl (fun _ _ _ h => h) (fun oi hoi => ?hy11) hS1 ?rs11
  case hy11 =>
    simp only [List.getElem?_toArray, List.getElem?_cons_succ, List.getElem?_cons_zero, Option.some.injEq] at hoi
    subst hoi
    exact ⟨rfl, Or.inr ⟨by rfl, rfl⟩⟩
  clear hcl
  intro hcl
  try simp only [Act.put, List.setIfInBounds_toArray, List.set_cons_zero, List.set_cons_succ]
  refine wpAnyT_one (i := 12) (by kernel_rfl) (by kernel_rfl) hcl (fun oi hoi K' hK' => ?_)
  clear hcl
  simp only [List.getElem?_toArray, List.getElem?_cons_succ, List.getElem?_cons_zero, Option.some.injEq] at hoi
  subst hoi
  go_simp
  refine (unhide hK') _ _ (.inl rfl) (fun hcl => ?_)
  clear hK' K'
  refine wpAnyT_done (by kernel_rfl) ?_ _
  clear hcl hN HC
  go_wp2_with fail
  go_ret
  exact ⟨rfl, (unhide HS3).2⟩
set_option maxRecDepth 100000 in
set_option maxHeartbeats 4000000 in
theorem step_stop (h : SAt w mb e A cap p fan s sv) (hn : p.length ≤ 1000) {o a bb c d : Int} (hp : p[s.pl]? = some ⟨o, a, bb, c, d⟩) (hm : mayV ⟨o, a, bb, c, d⟩ (p.length : Int) = 0) (ho : o = 15) :
    Calls Tryd.prog 7 #[.pointer (some ⟨mb, 0, none⟩)] w fun r w' => r = .returned (.bool false) ∧ Only [] w w' := by
  have hmay := hm
  clear hm
  have e15 : (o == 15) = true := by simpa using ho
  clear ho
  obtain ⟨cs, pl, L⟩ := s
  simp only at hp
  have hpl : pl < p.length := (List.getElem?_eq_some_iff.1 hp).1
  obtain ⟨b, off, rfl, hbl, x0, x1, x2, x3, x4⟩ := h.p pl _ hp
  simp only at x0 x1 x2 x3 x4
  have HS := hide h
  have hlt := h.lt
  have m7 := h.m.c7
  have m17 := h.m.c17
  simp only at m7 m17
  have HN := hide hn
  have HPL := hide hpl
  have d1 : decide ((p.length : Int) ≤ (pl : Int)) = false := by simp; omega
  have d2 : decide (p.length ≤ pl) = false := by simp; omega
  have d3 : decide ((pl : Int) < (p.length : Int)) = true := by simp; omega
  have d4 : decide (pl < p.length) = true := by simp; omega
  have d5 : decide (0 ≤ (pl : Int)) = true := by simp
  have d6 : (pl : Int) < (p.length : Int) := by omega
  clear h hn hp hpl
  go_enter Tryd.func7, Tryd.ntmps7
  go_wp2_with fail
  go_quiet (fail)
  have hh1 : (w.drewN nq).heap.size = w.heap.size := rfl
  have HS1 : Hid (SAt (w.drewN nq) mb e (some ⟨b, off, none⟩) cap p fan ⟨cs, pl, L⟩ sv ∧ Only [] w (w.drewN nq)) := ⟨(unhide HS).only0 ((Only.refl [] w).drewN nq), (Only.refl [] w).drewN nq⟩
  have y0 : (w.drewN nq).cell? ⟨b, off + pl * 5, none⟩ = some (.int .i64 o) := x0
  have y1 : (w.drewN nq).cell? ⟨b, off + pl * 5 + 1, none⟩ = some (.int .i64 a) := x1
  have y2 : (w.drewN nq).cell? ⟨b, off + pl * 5 + 2, none⟩ = some (.int .i64 bb) := x2
  have y3 : (w.drewN nq).cell? ⟨b, off + pl * 5 + 3, none⟩ = some (.int .i64 c) := x3
  have y4 : (w.drewN nq).cell? ⟨b, off + pl * 5 + 4, none⟩ = some (.int .i64 d) := x4
  have n7 : (w.drewN nq).cell? ⟨mb, 7, none⟩ = some (.slice (some ⟨b, off, none⟩) p.length cap) := m7
  have n17 : (w.drewN nq).cell? ⟨mb, 17, none⟩ = some (.int .i64 (pl : Int)) := m17
  rw [← hh1] at hlt hbl
  clear hh1 x0 x1 x2 x3 x4 m7 m17
  generalize w.drewN nq = w1 at *
  go_wp2_with fail
  go_region
  generalize hxb : w1.heap.size = xb
  rw [hxb] at hlt hbl
  obtain ⟨W2, hW2⟩ : ∃ W2, (w1.alloc (Obj.cells #[Value.int IntKind.i64 o, Value.int IntKind.i64 a, Value.int IntKind.i64 bb, Value.int IntKind.i64 c, Value.int IntKind.i64 d] 33)).drew = W2 := ⟨_, rfl⟩
  have hO2 : Only [] w1 W2 := by rw [← hW2]; exact ((Only.refl [] w1).alloc _).drew
  have HS2 : Hid (SAt W2 mb e (some ⟨b, off, none⟩) cap p fan ⟨cs, pl, L⟩ sv ∧ Only [] w W2) := ⟨(unhide HS1).1.only0 hO2, (unhide HS1).2.trans hO2⟩
  have hsz : W2.heap.size = xb + 1 := by rw [← hW2, ← hxb]; simp
  have hxl : xb < W2.heap.size := by omega
  have hmx : mb ≠ xb := by omega
  have hcl2 : ∀ (q : Nat) (v : Value), (#[Value.int IntKind.i64 o, Value.int IntKind.i64 a, Value.int IntKind.i64 bb, Value.int IntKind.i64 c, Value.int IntKind.i64 d] : Array Value)[q]? = some v → W2.cell? ⟨xb, q, none⟩ = some v := by
    intro q v hq
    rw [← hW2, ← hxb]
    have := cell_of_row (w1.alloc (Obj.cells #[Value.int IntKind.i64 o, Value.int IntKind.i64 a, Value.int IntKind.i64 bb, Value.int IntKind.i64 c, Value.int IntKind.i64 d] 33)) w1.heap.size q _ 33 (0, 0) (heap_alloc_last w1 _)
    exact this.trans hq
  have z0 := hcl2 0 _ rfl
  have z1 := hcl2 1 _ rfl
  have z2 := hcl2 2 _ rfl
  have z3 := hcl2 3 _ rfl
  have z4 := hcl2 4 _ rfl
  have k7 : W2.cell? ⟨mb, 7, none⟩ = some (.slice (some ⟨b, off, none⟩) p.length cap) := (unhide HS2).1.m.c7
  have k17 : W2.cell? ⟨mb, 17, none⟩ = some (.int .i64 (pl : Int)) := (unhide HS2).1.m.c17
  have HC : Hid (Calls Tryd.prog 12 #[.agg #[.int .i64 o, .int .i64 a, .int .i64 bb, .int .i64 c, .int .i64 d], .int .i64 (p.length : Int)] W2.drew fun e w' => e = .returned (.int .i64 (mayV ⟨o, a, bb, c, d⟩ (p.length : Int))) ∧ Only [] W2.drew w') := may_any ((unhide HS2).1.t.only (Only.refl [] _ |>.drew) (by simp))
  rw [hW2]
  have hlm : mb < W2.heap.size := by omega
  clear hW2 hcl2 hO2 y0 y1 y2 y3 y4 n7 n17 hlt hbl hsz hxb HS HS1 d1 d2 d3 d4 d5 d6
  clear w1
  go_upto_region 4 with fail
  have hS0 : W2.drew.cell? ⟨xb, 0, none⟩ = some (.int .i64 o) ∧ W2.drew.cell? ⟨xb, 1, none⟩ = some (.int .i64 a) ∧ W2.drew.cell? ⟨xb, 2, none⟩ = some (.int .i64 bb) ∧ W2.drew.cell? ⟨xb, 3, none⟩ = some (.int .i64 c) ∧ W2.drew.cell? ⟨xb, 4, none⟩ = some (.int .i64 d) ∧ W2.drew.cell? ⟨mb, 7, none⟩ = some (.slice (some ⟨b, off, none⟩) p.length cap) := ⟨z0, z1, z2, z3, z4, k7⟩
  refine wp_region_T (fun w' => w'.cell? ⟨xb, 0, none⟩ = some (.int .i64 o) ∧ w'.cell? ⟨xb, 1, none⟩ = some (.int .i64 a) ∧ w'.cell? ⟨xb, 2, none⟩ = some (.int .i64 bb) ∧ w'.cell? ⟨xb, 3, none⟩ = some (.int .i64 c) ∧ w'.cell? ⟨xb, 4, none⟩ = some (.int .i64 d) ∧ w'.cell? ⟨mb, 7, none⟩ = some (.slice (some ⟨b, off, none⟩) p.length cap)) 12 13 rfl (by kernel_rfl) (by kernel_rfl) (fun hN hcl => ?_)
  refine wpAnyT_take (i := 0) (v := ?_) (some 28) (by kernel_rfl) (by kernel_rfl) (by kernel_rfl) (by kernel_rfl) hN (by decide) hcl (fun _ _ _ h => h) (fun oi hoi => ?hy12) hS0 ?rs12
  case hy12 =>
    simp only [List.getElem?_toArray, List.getElem?_cons_succ, List.getElem?_cons_zero, Option.some.injEq] at hoi
    subst hoi
    refine ⟨rfl, Or.inl ⟨by rfl, ?_⟩⟩
    intro w hSw
    try dsimp only at hSw
    go_simp
    try with_reducible rfl
  clear hcl
  intro hcl
  try simp only [Act.put, List.setIfInBounds_toArray, List.set_cons_zero, List.set_cons_succ]
  refine wpAnyT_take (i := 1) (v := ?_) (some 29) (by kernel_rfl) (by kernel_rfl) (by kernel_rfl) (by kernel_rfl) hN (by decide) hcl (fun _ _ _ h => h) (fun oi hoi => ?hy13) hS0 ?rs13
  case hy13 =>
    simp only [List.getElem?_toArray, List.getElem?_cons_succ, List.getElem?_cons_zero, Option.some.injEq] at hoi
    subst hoi
    refine ⟨rfl, Or.inl ⟨by rfl, ?_⟩⟩
    intro w hSw
    try dsimp only at hSw
    go_simp
    try with_reducible rfl
  clear hcl
  intro hcl
  try simp only [Act.put, List.setIfInBounds_toArray, List.set_cons_zero, List.set_cons_succ]
  refine wpAnyT_take (i := 2) (v := ?_) (some 30) (by kernel_rfl) (by kernel_rfl) (by kernel_rfl) (by kernel_rfl) hN (by decide) hcl (fun _ _ _ h => h) (fun oi hoi => ?hy14) hS0 ?rs14
  case hy14 =>
    simp only [List.getElem?_toArray, List.getElem?_cons_succ, List.getElem?_cons_zero, Option.some.injEq] at hoi
    subst hoi
    refine ⟨rfl, Or.inl ⟨by rfl, ?_⟩⟩
    intro w hSw
    try dsimp only at hSw
    go_simp
    try with_reducible rfl
  clear hcl
  intro hcl
  try simp only [Act.put, List.setIfInBounds_toArray, List.set_cons_zero, List.set_cons_succ]
  refine wpAnyT_take (i := 3) (v := ?_) (some 31) (by kernel_rfl) (by kernel_rfl) (by kernel_rfl) (by kernel_rfl) hN (by decide) hcl (fun _ _ _ h => h) (fun oi hoi => ?hy15) hS0 ?rs15
  case hy15 =>
    simp only [List.getElem?_toArray, List.getElem?_cons_succ, List.getElem?_cons_zero, Option.some.injEq] at hoi
    subst hoi
    refine ⟨rfl, Or.inl ⟨by rfl, ?_⟩⟩
    intro w hSw
    try dsimp only at hSw
    go_simp
    try with_reducible rfl
  clear hcl
  intro hcl
  try simp only [Act.put, List.setIfInBounds_toArray, List.set_cons_zero, List.set_cons_succ]
  refine wpAnyT_take (i := 4) (v := ?_) (some 32) (by kernel_rfl) (by kernel_rfl) (by kernel_rfl) (by kernel_rfl) hN (by decide) hcl (fun _ _ _ h => h) (fun oi hoi => ?hy16) hS0 ?rs16
  case hy16 =>
    simp only [List.getElem?_toArray, List.getElem?_cons_succ, List.getElem?_cons_zero, Option.some.injEq] at hoi
    subst hoi
    refine ⟨rfl, Or.inl ⟨by rfl, ?_⟩⟩
    intro w hSw
    try dsimp only at hSw
    go_simp
    try with_reducible rfl
  clear hcl
  intro hcl
  try simp only [Act.put, List.setIfInBounds_toArray, List.set_cons_zero, List.set_cons_succ]
  refine wpAnyT_take (i := 5) (v := ?_) (some 33) (by kernel_rfl) (by kernel_rfl) (by kernel_rfl) (by kernel_rfl) hN (by decide) hcl (fun _ _ _ h => h) (fun oi hoi => ?hy17) hS0 ?rs17
  case hy17 =>
    simp only [List.getElem?_toArray, List.getElem?_cons_succ, List.getElem?_cons_zero, Option.some.injEq] at hoi
    subst hoi
    refine ⟨rfl, Or.inl ⟨by rfl, ?_⟩⟩
    intro w hSw
    try dsimp only at hSw
    go_simp
    try with_reducible rfl
  clear hcl
  intro hcl
  try simp only [Act.put, List.setIfInBounds_toArray, List.set_cons_zero, List.set_cons_succ]
  refine wpAnyT_one (i := 6) (by kernel_rfl) (by kernel_rfl) hcl (fun oi hoi K' hK' => ?_)
  clear hcl
  simp only [List.getElem?_toArray, List.getElem?_cons_succ, List.getElem?_cons_zero, Option.some.injEq] at hoi
  subst hoi
  go_simp
  refine (unhide HC).mono ?_
  rintro _ W3 ⟨rfl, k⟩
  have hS1 : W3.cell? ⟨xb, 0, none⟩ = some (.int .i64 o) ∧ W3.cell? ⟨xb, 1, none⟩ = some (.int .i64 a) ∧ W3.cell? ⟨xb, 2, none⟩ = some (.int .i64 bb) ∧ W3.cell? ⟨xb, 3, none⟩ = some (.int .i64 c) ∧ W3.cell? ⟨xb, 4, none⟩ = some (.int .i64 d) ∧ W3.cell? ⟨mb, 7, none⟩ = some (.slice (some ⟨b, off, none⟩) p.length cap) := ⟨(k.cell (p := ⟨xb, 0, none⟩) hxl (by simp)).trans z0, (k.cell (p := ⟨xb, 1, none⟩) hxl (by simp)).trans z1, (k.cell (p := ⟨xb, 2, none⟩) hxl (by simp)).trans z2, (k.cell (p := ⟨xb, 3, none⟩) hxl (by simp)).trans z3, (k.cell (p := ⟨xb, 4, none⟩) hxl (by simp)).trans z4, (k.cell (p := ⟨mb, 7, none⟩) hlm (by simp)).trans k7⟩
  have HS3 : Hid (SAt W3 mb e (some ⟨b, off, none⟩) cap p fan ⟨cs, pl, L⟩ sv ∧ Only [] w W3) := ⟨(unhide HS2).1.only0 (((Only.refl [] W2).drew).trans k), (unhide HS2).2.trans (((Only.refl [] W2).drew).trans k)⟩
  have hxl3 : xb < W3.heap.size := Nat.lt_of_lt_of_le hxl k.size
  have hlm3 : mb < W3.heap.size := Nat.lt_of_lt_of_le hlm k.size
  clear hS0 k z0 z1 z2 z3 z4 k7 k17 hxl hlm
  try simp only [hmay]
  refine (unhide hK') _ _ (.inr hS1) (fun hcl => ?_)
  clear hK' K'
  try simp only [Act.put, List.setIfInBounds_toArray, List.set_cons_zero, List.set_cons_succ]
  refine wpAnyT_take (i := 7) (v := ?_) (some 35) (by kernel_rfl) (by kernel_rfl) (by kernel_rfl) (by kernel_rfl) hN (by decide) hcl (fun _ _ _ h => h) (fun oi hoi => ?hy18) hS1 ?rs18
  case hy18 =>
    simp only [List.getElem?_toArray, List.getElem?_cons_succ, List.getElem?_cons_zero, Option.some.injEq] at hoi
    subst hoi
    refine ⟨rfl, Or.inl ⟨by rfl, ?_⟩⟩
    intro w hSw
    try dsimp only at hSw
    go_simp
    try with_reducible rfl
  clear hcl
  intro hcl
  try simp only [Act.put, List.setIfInBounds_toArray, List.set_cons_zero, List.set_cons_succ]
  refine wpAnyT_take (i := 8) (v := ?_) (some 36) (by kernel_rfl) (by kernel_rfl) (by kernel_rfl) (by kernel_rfl) hN (by decide) hcl (fun _ _ _ h => h) (fun oi hoi => ?hy19) hS1 ?rs19
  case hy19 =>
    simp only [List.getElem?_toArray, List.getElem?_cons_succ, List.getElem?_cons_zero, Option.some.injEq] at hoi
    subst hoi
    refine ⟨rfl, Or.inl ⟨by rfl, ?_⟩⟩
    intro w hSw
    try dsimp only at hSw
    go_simp
    try with_reducible rfl
  clear hcl
  intro hcl
  try simp only [Act.put, List.setIfInBounds_toArray, List.set_cons_zero, List.set_cons_succ]
  refine wpAnyT_take (i := 9) (v := ?_) (some 37) (by kernel_rfl) (by kernel_rfl) (by kernel_rfl) (by kernel_rfl) hN (by decide) hcl (fun _ _ _ h => h) (fun oi hoi => ?hy20) hS1 ?rs20
  case hy20 =>
    simp only [List.getElem?_toArray, List.getElem?_cons_succ, List.getElem?_cons_zero, Option.some.injEq] at hoi
    subst hoi
    refine ⟨rfl, Or.inl ⟨by rfl, ?_⟩⟩
    intro w hSw
    try dsimp only at hSw
    go_simp
    try with_reducible rfl
  clear hcl
  intro hcl
  try simp only [Act.put, List.setIfInBounds_toArray, List.set_cons_zero, List.set_cons_succ]
  refine wpAnyT_take (i := 10) (v := ?_) (some 38) (by kernel_rfl) (by kernel_rfl) (by kernel_rfl) (by kernel_rfl) hN (by decide) hcl (fun _ _ _ h => h) (fun oi hoi => ?hy21) hS1 ?rs21
  case hy21 =>
    simp only [List.getElem?_toArray, List.getElem?_cons_succ, List.getElem?_cons_zero, Option.some.injEq] at hoi
    subst hoi
    refine ⟨rfl, Or.inl ⟨by rfl, ?_⟩⟩
    intro w hSw
    try dsimp only at hSw
    go_simp
    try with_reducible rfl
  clear hcl
  intro hcl
  try simp only [Act.put, List.setIfInBounds_toArray, List.set_cons_zero, List.set_cons_succ]
  refine wpAnyT_take (i := 11) (v := ?_) (some 39) (by kernel_rfl) (by kernel_rfl) (by kernel_rfl) (by kernel_rfl) hN (by decide) hcl (fun _ _ _ h => h) (fun oi hoi => ?hy22) hS1 ?rs22
  case hy22 =>
    simp only [List.getElem?_toArray, List.getElem?_cons_succ, List.getElem?_cons_zero, Option.some.injEq] at hoi
    subst hoi
    refine ⟨rfl, Or.inl ⟨by rfl, ?_⟩⟩
    intro w hSw
    try dsimp only at hSw
    go_simp
    try with_reducible rfl
  clear hcl
  intro hcl
  try simp only [Act.put, List.setIfInBounds_toArray, List.set_cons_zero, List.set_cons_succ]
  refine wpAnyT_one (i := 12) (by kernel_rfl) (by kernel_rfl) hcl (fun oi hoi K' hK' => ?_)
  clear hcl
  simp only [List.getElem?_toArray, List.getElem?_cons_succ, List.getElem?_cons_zero, Option.some.injEq] at hoi
  subst hoi
  go_simp
  refine (unhide hK') _ _ (.inl rfl) (fun hcl => ?_)
  clear hK' K'
  refine wpAnyT_done (by kernel_rfl) ?_ _
  clear hcl hN HC
  go_wp2_with fail
  go_ret
  exact ⟨rfl, (unhide HS3).2⟩
end
end Go.Proofs.YtipllcepoijbiaaDoor
