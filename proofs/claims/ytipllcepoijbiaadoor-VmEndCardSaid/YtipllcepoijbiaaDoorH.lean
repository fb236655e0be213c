/-
  A step that does an instruction: one that tells a number.
-/
import Derived.Test.YtipllcepoijbiaaDoorG
import Derived.Deep.DeepCutAuto
namespace Go.Proofs.YtipllcepoijbiaaDoor
open Go.RowKit Go.Deep
set_option linter.unusedVariables false
set_option linter.unusedSimpArgs false
section
variable {w : World} {mb : Nat} {e : Nat → Int} {A : Option Addr} {cap : Nat} {p : List I} {fan : Int} {s : S} {sv : Value}
set_option maxRecDepth 100000 in
set_option maxHeartbeats 8000000 in
theorem step_num (h : SAt w mb e A cap p fan s sv) (hn : p.length ≤ 1000) {o : Int} {a : Nat} {bb c d : Int} (hp : p[s.pl]? = some ⟨o, (a : Int), bb, c, d⟩) (hm : mayV ⟨o, (a : Int), bb, c, d⟩ (p.length : Int) = 0) (h8 : o ≠ 8) (h9 : o ≠ 9) (h14 : o ≠ 14) (h15 : o ≠ 15) (ha : a < 8) :
    Calls Tryd.prog 7 #[.pointer (some ⟨mb, 0, none⟩)] w fun r w' => r = .returned (.bool true) ∧ ∃ sv', SAt w' mb e A cap p fan (doV ⟨o, (a : Int), bb, c, d⟩ e fan s) sv' ∧ Below mb w w' := by
  have HM := hide hm
  have HLM := hide h.lt
  have hmay := hm
  clear hm
  obtain ⟨z, hz⟩ : ∃ z, toldV ⟨o, (a : Int), bb, c, d⟩ s.cs e = z := ⟨_, rfl⟩
  have HD0 : Hid (∀ {W : World} {cs : Nat → Int} {pl : Int}, cs = s.cs → MAt W mb e (.slice A p.length cap) fan cs pl sv → Calls Tryd.prog 13 #[.pointer (some ⟨mb, 0, none⟩), .agg #[.int .i64 o, .int .i64 (a : Int), .int .i64 bb, .int .i64 c, .int .i64 d]] W fun r w' => r = .returned (.int .i64 z) ∧ Only [] W w') := by
    intro W cs pl hcs hm
    rw [← hz, ← hcs]
    exact told_any hm hmay h8 h9 h14 h15
  have HF : Hid (doV ⟨o, (a : Int), bb, c, d⟩ e fan s = ⟨fun j => if j = a then z else s.cs j, s.pl + 1, s.L⟩) := by
    show doV _ _ _ _ = _
    simp only [doV]
    rw [if_neg h14, hz]
    rfl
  have e15 : (o == 15) = false := by simpa using h15
  have e8 : (o == 8) = false := by simpa using h8
  have e9 : (o == 9) = false := by simpa using h9
  have e14 : (o == 14) = false := by simpa using h14
  clear h8 h9 h14 h15 hz
  obtain ⟨cs, pl, L⟩ := s
  simp only at hp
  have hpl : pl < p.length := (List.getElem?_eq_some_iff.1 hp).1
  obtain ⟨b, off, rfl, hbl, x0, x1, x2, x3, x4⟩ := h.p pl _ hp
  simp only at x0 x1 x2 x3 x4
  have HS := hide h
  have hlt := h.lt
  have m7 := h.m.c7
  have m17 := h.m.c17
  simp only at m7 m17
  have HN := hide hn
  have HPL := hide hpl
  have d1 : decide ((p.length : Int) ≤ (pl : Int)) = false := by simp; omega
  have d2 : decide (p.length ≤ pl) = false := by simp; omega
  have d3 : decide ((pl : Int) < (p.length : Int)) = true := by simp; omega
  have d4 : decide (pl < p.length) = true := by simp; omega
  have d5 : decide (0 ≤ (pl : Int)) = true := by simp
  have d6 : (pl : Int) < (p.length : Int) := by omega
  clear h hn hp hpl
  go_enter Tryd.func7, Tryd.ntmps7
  go_wp2_with fail
  go_quiet (fail)
  have hh1 : (w.drewN nq).heap.size = w.heap.size := rfl
  have HS1 : Hid (SAt (w.drewN nq) mb e (some ⟨b, off, none⟩) cap p fan ⟨cs, pl, L⟩ sv ∧ Only [] w (w.drewN nq)) := ⟨(unhide HS).only0 ((Only.refl [] w).drewN nq), (Only.refl [] w).drewN nq⟩
  have y0 : (w.drewN nq).cell? ⟨b, off + pl * 5, none⟩ = some (.int .i64 o) := x0
  have y1 : (w.drewN nq).cell? ⟨b, off + pl * 5 + 1, none⟩ = some (.int .i64 (a : Int)) := x1
  have y2 : (w.drewN nq).cell? ⟨b, off + pl * 5 + 2, none⟩ = some (.int .i64 bb) := x2
  have y3 : (w.drewN nq).cell? ⟨b, off + pl * 5 + 3, none⟩ = some (.int .i64 c) := x3
  have y4 : (w.drewN nq).cell? ⟨b, off + pl * 5 + 4, none⟩ = some (.int .i64 d) := x4
  have n7 : (w.drewN nq).cell? ⟨mb, 7, none⟩ = some (.slice (some ⟨b, off, none⟩) p.length cap) := m7
  have n17 : (w.drewN nq).cell? ⟨mb, 17, none⟩ = some (.int .i64 (pl : Int)) := m17
  rw [← hh1] at hlt hbl
  clear hh1 x0 x1 x2 x3 x4 m7 m17
  generalize w.drewN nq = w1 at *
  go_wp2_with fail
  go_region
  generalize hxb : w1.heap.size = xb
  rw [hxb] at hlt hbl
  obtain ⟨W2, hW2⟩ : ∃ W2, (w1.alloc (Obj.cells #[Value.int IntKind.i64 o, Value.int IntKind.i64 (a : Int), Value.int IntKind.i64 bb, Value.int IntKind.i64 c, Value.int IntKind.i64 d] 33)).drew = W2 := ⟨_, rfl⟩
  have hO2 : Only [] w1 W2 := by rw [← hW2]; exact ((Only.refl [] w1).alloc _).drew
  have HS2 : Hid (SAt W2 mb e (some ⟨b, off, none⟩) cap p fan ⟨cs, pl, L⟩ sv ∧ Only [] w W2) := ⟨(unhide HS1).1.only0 hO2, (unhide HS1).2.trans hO2⟩
  have hsz : W2.heap.size = xb + 1 := by rw [← hW2, ← hxb]; simp
  have hxl : xb < W2.heap.size := by omega
  have hmx : mb ≠ xb := by omega
  have hcl2 : ∀ (q : Nat) (v : Value), (#[Value.int IntKind.i64 o, Value.int IntKind.i64 (a : Int), Value.int IntKind.i64 bb, Value.int IntKind.i64 c, Value.int IntKind.i64 d] : Array Value)[q]? = some v → W2.cell? ⟨xb, q, none⟩ = some v := by
    intro q v hq
    rw [← hW2, ← hxb]
    have := cell_of_row (w1.alloc (Obj.cells #[Value.int IntKind.i64 o, Value.int IntKind.i64 (a : Int), Value.int IntKind.i64 bb, Value.int IntKind.i64 c, Value.int IntKind.i64 d] 33)) w1.heap.size q _ 33 (0, 0) (heap_alloc_last w1 _)
    exact this.trans hq
  have z0 := hcl2 0 _ rfl
  have z1 := hcl2 1 _ rfl
  have z2 := hcl2 2 _ rfl
  have z3 := hcl2 3 _ rfl
  have z4 := hcl2 4 _ rfl
  have k7 : W2.cell? ⟨mb, 7, none⟩ = some (.slice (some ⟨b, off, none⟩) p.length cap) := (unhide HS2).1.m.c7
  have k17 : W2.cell? ⟨mb, 17, none⟩ = some (.int .i64 (pl : Int)) := (unhide HS2).1.m.c17
  have HC : Hid (Calls Tryd.prog 12 #[.agg #[.int .i64 o, .int .i64 (a : Int), .int .i64 bb, .int .i64 c, .int .i64 d], .int .i64 (p.length : Int)] W2.drew fun e w' => e = .returned (.int .i64 (mayV ⟨o, (a : Int), bb, c, d⟩ (p.length : Int))) ∧ Only [] W2.drew w') := may_any ((unhide HS2).1.t.only (Only.refl [] _ |>.drew) (by simp))
  rw [hW2]
  have hlm : mb < W2.heap.size := by omega
  clear hW2 hcl2 hO2 y0 y1 y2 y3 y4 n7 n17 hlt hbl hsz hxb HS HS1 d1 d2 d3 d4 d5 d6
  clear w1
  go_upto_region 4 with fail
  have hS0 : W2.drew.cell? ⟨xb, 0, none⟩ = some (.int .i64 o) ∧ W2.drew.cell? ⟨xb, 1, none⟩ = some (.int .i64 (a : Int)) ∧ W2.drew.cell? ⟨xb, 2, none⟩ = some (.int .i64 bb) ∧ W2.drew.cell? ⟨xb, 3, none⟩ = some (.int .i64 c) ∧ W2.drew.cell? ⟨xb, 4, none⟩ = some (.int .i64 d) ∧ W2.drew.cell? ⟨mb, 7, none⟩ = some (.slice (some ⟨b, off, none⟩) p.length cap) := ⟨z0, z1, z2, z3, z4, k7⟩
  refine wp_region_T (fun w' => w'.cell? ⟨xb, 0, none⟩ = some (.int .i64 o) ∧ w'.cell? ⟨xb, 1, none⟩ = some (.int .i64 (a : Int)) ∧ w'.cell? ⟨xb, 2, none⟩ = some (.int .i64 bb) ∧ w'.cell? ⟨xb, 3, none⟩ = some (.int .i64 c) ∧ w'.cell? ⟨xb, 4, none⟩ = some (.int .i64 d) ∧ w'.cell? ⟨mb, 7, none⟩ = some (.slice (some ⟨b, off, none⟩) p.length cap)) 12 13 rfl (by kernel_rfl) (by kernel_rfl) (fun hN hcl => ?_)
  refine wpAnyT_take (i := 0) (v := ?_) (some 28) (by kernel_rfl) (by kernel_rfl) (by kernel_rfl) (by kernel_rfl) hN (by decide) hcl (fun _ _ _ h => h) (fun oi hoi => ?hy23) hS0 ?rs23
  case hy23 =>
    simp only [List.getElem?_toArray, List.getElem?_cons_succ, List.getElem?_cons_zero, Option.some.injEq] at hoi
    subst hoi
    refine ⟨rfl, Or.inl ⟨by rfl, ?_⟩⟩
    intro w hSw
    try dsimp only at hSw
    go_simp
    try with_reducible rfl
  clear hcl
  intro hcl
  try simp only [Act.put, List.setIfInBounds_toArray, List.set_cons_zero, List.set_cons_succ]
  refine wpAnyT_take (i := 1) (v := ?_) (some 29) (by kernel_rfl) (by kernel_rfl) (by kernel_rfl) (by kernel_rfl) hN (by decide) hcl (fun _ _ _ h => h) (fun oi hoi => ?hy24) hS0 ?rs24
  case hy24 =>
    simp only [List.getElem?_toArray, List.getElem?_cons_succ, List.getElem?_cons_zero, Option.some.injEq] at hoi
    subst hoi
    refine ⟨rfl, Or.inl ⟨by rfl, ?_⟩⟩
    intro w hSw
    try dsimp only at hSw
    go_simp
    try with_reducible rfl
  clear hcl
  intro hcl
  try simp only [Act.put, List.setIfInBounds_toArray, List.set_cons_zero, List.set_cons_succ]
  refine wpAnyT_take (i := 2) (v := ?_) (some 30) (by kernel_rfl) (by kernel_rfl) (by kernel_rfl) (by kernel_rfl) hN (by decide) hcl (fun _ _ _ h => h) (fun oi hoi => ?hy25) hS0 ?rs25
  case hy25 =>
    simp only [List.getElem?_toArray, List.getElem?_cons_succ, List.getElem?_cons_zero, Option.some.injEq] at hoi
    subst hoi
    refine ⟨rfl, Or.inl ⟨by rfl, ?_⟩⟩
    intro w hSw
    try dsimp only at hSw
    go_simp
    try with_reducible rfl
  clear hcl
  intro hcl
  try simp only [Act.put, List.setIfInBounds_toArray, List.set_cons_zero, List.set_cons_succ]
  refine wpAnyT_take (i := 3) (v := ?_) (some 31) (by kernel_rfl) (by kernel_rfl) (by kernel_rfl) (by kernel_rfl) hN (by decide) hcl (fun _ _ _ h => h) (fun oi hoi => ?hy26) hS0 ?rs26
  case hy26 =>
    simp only [List.getElem?_toArray, List.getElem?_cons_succ, List.getElem?_cons_zero, Option.some.injEq] at hoi
    subst hoi
    refine ⟨rfl, Or.inl ⟨by rfl, ?_⟩⟩
    intro w hSw
    try dsimp only at hSw
    go_simp
    try with_reducible rfl
  clear hcl
  intro hcl
  try simp only [Act.put, List.setIfInBounds_toArray, List.set_cons_zero, List.set_cons_succ]
  refine wpAnyT_take (i := 4) (v := ?_) (some 32) (by kernel_rfl) (by kernel_rfl) (by kernel_rfl) (by kernel_rfl) hN (by decide) hcl (fun _ _ _ h => h) (fun oi hoi => ?hy27) hS0 ?rs27
  case hy27 =>
    simp only [List.getElem?_toArray, List.getElem?_cons_succ, List.getElem?_cons_zero, Option.some.injEq] at hoi
    subst hoi
    refine ⟨rfl, Or.inl ⟨by rfl, ?_⟩⟩
    intro w hSw
    try dsimp only at hSw
    go_simp
    try with_reducible rfl
  clear hcl
  intro hcl
  try simp only [Act.put, List.setIfInBounds_toArray, List.set_cons_zero, List.set_cons_succ]
  refine wpAnyT_take (i := 5) (v := ?_) (some 33) (by kernel_rfl) (by kernel_rfl) (by kernel_rfl) (by kernel_rfl) hN (by decide) hcl (fun _ _ _ h => h) (fun oi hoi => ?hy28) hS0 ?rs28
  case hy28 =>
    simp only [List.getElem?_toArray, List.getElem?_cons_succ, List.getElem?_cons_zero, Option.some.injEq] at hoi
    subst hoi
    refine ⟨rfl, Or.inl ⟨by rfl, ?_⟩⟩
    intro w hSw
    try dsimp only at hSw
    go_simp
    try with_reducible rfl
  clear hcl
  intro hcl
  try simp only [Act.put, List.setIfInBounds_toArray, List.set_cons_zero, List.set_cons_succ]
  refine wpAnyT_one (i := 6) (by kernel_rfl) (by kernel_rfl) hcl (fun oi hoi K' hK' => ?_)
  clear hcl
  simp only [List.getElem?_toArray, List.getElem?_cons_succ, List.getElem?_cons_zero, Option.some.injEq] at hoi
  subst hoi
  go_simp
  refine (unhide HC).mono ?_
  rintro _ W3 ⟨rfl, k⟩
  have hS1 : W3.cell? ⟨xb, 0, none⟩ = some (.int .i64 o) ∧ W3.cell? ⟨xb, 1, none⟩ = some (.int .i64 (a : Int)) ∧ W3.cell? ⟨xb, 2, none⟩ = some (.int .i64 bb) ∧ W3.cell? ⟨xb, 3, none⟩ = some (.int .i64 c) ∧ W3.cell? ⟨xb, 4, none⟩ = some (.int .i64 d) ∧ W3.cell? ⟨mb, 7, none⟩ = some (.slice (some ⟨b, off, none⟩) p.length cap) := ⟨(k.cell (p := ⟨xb, 0, none⟩) hxl (by simp)).trans z0, (k.cell (p := ⟨xb, 1, none⟩) hxl (by simp)).trans z1, (k.cell (p := ⟨xb, 2, none⟩) hxl (by simp)).trans z2, (k.cell (p := ⟨xb, 3, none⟩) hxl (by simp)).trans z3, (k.cell (p := ⟨xb, 4, none⟩) hxl (by simp)).trans z4, (k.cell (p := ⟨mb, 7, none⟩) hlm (by simp)).trans k7⟩
  have HS3 : Hid (SAt W3 mb e (some ⟨b, off, none⟩) cap p fan ⟨cs, pl, L⟩ sv ∧ Only [] w W3) := ⟨(unhide HS2).1.only0 (((Only.refl [] W2).drew).trans k), (unhide HS2).2.trans (((Only.refl [] W2).drew).trans k)⟩
  have hxl3 : xb < W3.heap.size := Nat.lt_of_lt_of_le hxl k.size
  have hlm3 : mb < W3.heap.size := Nat.lt_of_lt_of_le hlm k.size
  clear hS0 k z0 z1 z2 z3 z4 k7 k17 hxl hlm
  try simp only [hmay]
  refine (unhide hK') _ _ (.inr hS1) (fun hcl => ?_)
  clear hK' K'
  try simp only [Act.put, List.setIfInBounds_toArray, List.set_cons_zero, List.set_cons_succ]
  refine wpAnyT_take (i := 7) (v := ?_) (some 35) (by kernel_rfl) (by kernel_rfl) (by kernel_rfl) (by kernel_rfl) hN (by decide) hcl (fun _ _ _ h => h) (fun oi hoi => ?hy29) hS1 ?rs29
  case hy29 =>
    simp only [List.getElem?_toArray, List.getElem?_cons_succ, List.getElem?_cons_zero, Option.some.injEq] at hoi
    subst hoi
    refine ⟨rfl, Or.inl ⟨by rfl, ?_⟩⟩
    intro w hSw
    try dsimp only at hSw
    go_simp
    try with_reducible rfl
  clear hcl
  intro hcl
  try simp only [Act.put, List.setIfInBounds_toArray, List.set_cons_zero, List.set_cons_succ]
  refine wpAnyT_take (i := 8) (v := ?_) (some 36) (by kernel_rfl) (by kernel_rfl) (by kernel_rfl) (by kernel_rfl) hN (by decide) hcl (fun _ _ _ h => h) (fun oi hoi => ?hy30) hS1 ?rs30
  case hy30 =>
    simp only [List.getElem?_toArray, List.getElem?_cons_succ, List.getElem?_cons_zero, Option.some.injEq] at hoi
    subst hoi
    refine ⟨rfl, Or.inl ⟨by rfl, ?_⟩⟩
    intro w hSw
    try dsimp only at hSw
    go_simp
    try with_reducible rfl
  clear hcl
  intro hcl
  try simp only [Act.put, List.setIfInBounds_toArray, List.set_cons_zero, List.set_cons_succ]
  refine wpAnyT_take (i := 9) (v := ?_) (some 37) (by kernel_rfl) (by kernel_rfl) (by kernel_rfl) (by kernel_rfl) hN (by decide) hcl (fun _ _ _ h => h) (fun oi hoi => ?hy31) hS1 ?rs31
  case hy31 =>
    simp only [List.getElem?_toArray, List.getElem?_cons_succ, List.getElem?_cons_zero, Option.some.injEq] at hoi
    subst hoi
    refine ⟨rfl, Or.inl ⟨by rfl, ?_⟩⟩
    intro w hSw
    try dsimp only at hSw
    go_simp
    try with_reducible rfl
  clear hcl
  intro hcl
  try simp only [Act.put, List.setIfInBounds_toArray, List.set_cons_zero, List.set_cons_succ]
  refine wpAnyT_take (i := 10) (v := ?_) (some 38) (by kernel_rfl) (by kernel_rfl) (by kernel_rfl) (by kernel_rfl) hN (by decide) hcl (fun _ _ _ h => h) (fun oi hoi => ?hy32) hS1 ?rs32
  case hy32 =>
    simp only [List.getElem?_toArray, List.getElem?_cons_succ, List.getElem?_cons_zero, Option.some.injEq] at hoi
    subst hoi
    refine ⟨rfl, Or.inl ⟨by rfl, ?_⟩⟩
    intro w hSw
    try dsimp only at hSw
    go_simp
    try with_reducible rfl
  clear hcl
  intro hcl
  try simp only [Act.put, List.setIfInBounds_toArray, List.set_cons_zero, List.set_cons_succ]
  refine wpAnyT_take (i := 11) (v := ?_) (some 39) (by kernel_rfl) (by kernel_rfl) (by kernel_rfl) (by kernel_rfl) hN (by decide) hcl (fun _ _ _ h => h) (fun oi hoi => ?hy33) hS1 ?rs33
  case hy33 =>
    simp only [List.getElem?_toArray, List.getElem?_cons_succ, List.getElem?_cons_zero, Option.some.injEq] at hoi
    subst hoi
    refine ⟨rfl, Or.inl ⟨by rfl, ?_⟩⟩
    intro w hSw
    try dsimp only at hSw
    go_simp
    try with_reducible rfl
  clear hcl
  intro hcl
  try simp only [Act.put, List.setIfInBounds_toArray, List.set_cons_zero, List.set_cons_succ]
  refine wpAnyT_one (i := 12) (by kernel_rfl) (by kernel_rfl) hcl (fun oi hoi K' hK' => ?_)
  clear hcl
  simp only [List.getElem?_toArray, List.getElem?_cons_succ, List.getElem?_cons_zero, Option.some.injEq] at hoi
  subst hoi
  go_simp
  refine (unhide hK') _ _ (.inl rfl) (fun hcl => ?_)
  clear hK' K'
  refine wpAnyT_done (by kernel_rfl) ?_ _
  clear hcl hN HC
  obtain ⟨u0, u1, u2, u3, u4, u7⟩ := hS1
  have u17 : W3.cell? ⟨mb, 17, none⟩ = some (.int .i64 (pl : Int)) := (unhide HS3).1.m.c17
  have f17 := (unhide HS3).1.m.fz 17
  have hw : IntKind.i64.wrap ((pl : Int) + 1) = (pl : Int) + 1 := by
    have h1 := unhide HN
    have h2 := unhide HPL
    rw [Go.IntWalk.i64_left]
    exact Go.IntWalk.wrap64_in _ (by omega)
  clear HS2
  go_upto_region 8 with fail
  have HS4 : Hid (SAt (W3.setCell ⟨mb, 17, none⟩ (.int .i64 ((pl : Int) + 1))) mb e (some ⟨b, off, none⟩) cap p fan ⟨cs, pl + 1, L⟩ sv ∧ Only [mb] w (W3.setCell ⟨mb, 17, none⟩ (.int .i64 ((pl : Int) + 1)))) := ⟨by have := (unhide HS3).1.at17 (pl + 1); simpa using this, ((unhide HS3).2.mono (by simp)).setIn (by simp) _⟩
  have hO4 : Only [mb] W3 (W3.setCell ⟨mb, 17, none⟩ (.int .i64 ((pl : Int) + 1))) := (Only.refl [mb] W3).setIn (by simp) _
  have v0 := (hO4.cell (p := ⟨xb, 0, none⟩) hxl3 (by simpa using Ne.symm hmx)).trans u0
  have v1 := (hO4.cell (p := ⟨xb, 1, none⟩) hxl3 (by simpa using Ne.symm hmx)).trans u1
  have v2 := (hO4.cell (p := ⟨xb, 2, none⟩) hxl3 (by simpa using Ne.symm hmx)).trans u2
  have v3 := (hO4.cell (p := ⟨xb, 3, none⟩) hxl3 (by simpa using Ne.symm hmx)).trans u3
  have v4 := (hO4.cell (p := ⟨xb, 4, none⟩) hxl3 (by simpa using Ne.symm hmx)).trans u4
  have hxl4 : xb < (W3.setCell ⟨mb, 17, none⟩ (.int .i64 ((pl : Int) + 1))).heap.size := Nat.lt_of_lt_of_le hxl3 hO4.size
  have hlm4 : mb < (W3.setCell ⟨mb, 17, none⟩ (.int .i64 ((pl : Int) + 1))).heap.size := Nat.lt_of_lt_of_le hlm3 hO4.size
  clear hO4 u0 u1 u2 u3 u4 u7 u17 f17 hw hxl3 hlm3 HS3
  generalize W3.setCell ⟨mb, 17, none⟩ (.int .i64 ((pl : Int) + 1)) = W4 at *
  have hS4 : W4.drew.cell? ⟨xb, 0, none⟩ = some (.int .i64 o) ∧ W4.drew.cell? ⟨xb, 1, none⟩ = some (.int .i64 (a : Int)) ∧ W4.drew.cell? ⟨xb, 2, none⟩ = some (.int .i64 bb) ∧ W4.drew.cell? ⟨xb, 3, none⟩ = some (.int .i64 c) ∧ W4.drew.cell? ⟨xb, 4, none⟩ = some (.int .i64 d) := ⟨v0, v1, v2, v3, v4⟩
  have HD := hide ((unhide HD0) rfl ((unhide HS4).1.m.only (Only.refl [] W4).drew (by simp)))
  have ha2 : (a : Int) < 8 := by omega
  have ha3 : decide ((a : Int) < 8) = true := decide_eq_true ha2
  refine wp_region_T (fun w' => w'.cell? ⟨xb, 0, none⟩ = some (.int .i64 o) ∧ w'.cell? ⟨xb, 1, none⟩ = some (.int .i64 (a : Int)) ∧ w'.cell? ⟨xb, 2, none⟩ = some (.int .i64 bb) ∧ w'.cell? ⟨xb, 3, none⟩ = some (.int .i64 c) ∧ w'.cell? ⟨xb, 4, none⟩ = some (.int .i64 d)) 9 10 rfl (by kernel_rfl) (by kernel_rfl) (fun hN hcl => ?_)
  refine wpAnyT_take (i := 0) (v := ?_) (some 50) (by kernel_rfl) (by kernel_rfl) (by kernel_rfl) (by kernel_rfl) hN (by decide) hcl (fun _ _ _ h => h) (fun oi hoi => ?hy34) hS4 ?rs34
  case hy34 =>
    simp only [List.getElem?_toArray, List.getElem?_cons_succ, List.getElem?_cons_zero, Option.some.injEq] at hoi
    subst hoi
    refine ⟨rfl, Or.inl ⟨by rfl, ?_⟩⟩
    intro w hSw
    try dsimp only at hSw
    go_simp
    try with_reducible rfl
  clear hcl
  intro hcl
  try simp only [Act.put, List.setIfInBounds_toArray, List.set_cons_zero, List.set_cons_succ]
  refine wpAnyT_take (i := 1) (v := ?_) (some 51) (by kernel_rfl) (by kernel_rfl) (by kernel_rfl) (by kernel_rfl) hN (by decide) hcl (fun _ _ _ h => h) (fun oi hoi => ?hy35) hS4 ?rs35
  case hy35 =>
    simp only [List.getElem?_toArray, List.getElem?_cons_succ, List.getElem?_cons_zero, Option.some.injEq] at hoi
    subst hoi
    refine ⟨rfl, Or.inl ⟨by rfl, ?_⟩⟩
    intro w hSw
    try dsimp only at hSw
    go_simp
    try with_reducible rfl
  clear hcl
  intro hcl
  try simp only [Act.put, List.setIfInBounds_toArray, List.set_cons_zero, List.set_cons_succ]
  refine wpAnyT_take (i := 2) (v := ?_) (some 52) (by kernel_rfl) (by kernel_rfl) (by kernel_rfl) (by kernel_rfl) hN (by decide) hcl (fun _ _ _ h => h) (fun oi hoi => ?hy36) hS4 ?rs36
  case hy36 =>
    simp only [List.getElem?_toArray, List.getElem?_cons_succ, List.getElem?_cons_zero, Option.some.injEq] at hoi
    subst hoi
    refine ⟨rfl, Or.inl ⟨by rfl, ?_⟩⟩
    intro w hSw
    try dsimp only at hSw
    go_simp
    try with_reducible rfl
  clear hcl
  intro hcl
  try simp only [Act.put, List.setIfInBounds_toArray, List.set_cons_zero, List.set_cons_succ]
  refine wpAnyT_take (i := 3) (v := ?_) (some 53) (by kernel_rfl) (by kernel_rfl) (by kernel_rfl) (by kernel_rfl) hN (by decide) hcl (fun _ _ _ h => h) (fun oi hoi => ?hy37) hS4 ?rs37
  case hy37 =>
    simp only [List.getElem?_toArray, List.getElem?_cons_succ, List.getElem?_cons_zero, Option.some.injEq] at hoi
    subst hoi
    refine ⟨rfl, Or.inl ⟨by rfl, ?_⟩⟩
    intro w hSw
    try dsimp only at hSw
    go_simp
    try with_reducible rfl
  clear hcl
  intro hcl
  try simp only [Act.put, List.setIfInBounds_toArray, List.set_cons_zero, List.set_cons_succ]
  refine wpAnyT_take (i := 4) (v := ?_) (some 54) (by kernel_rfl) (by kernel_rfl) (by kernel_rfl) (by kernel_rfl) hN (by decide) hcl (fun _ _ _ h => h) (fun oi hoi => ?hy38) hS4 ?rs38
  case hy38 =>
    simp only [List.getElem?_toArray, List.getElem?_cons_succ, List.getElem?_cons_zero, Option.some.injEq] at hoi
    subst hoi
    refine ⟨rfl, Or.inl ⟨by rfl, ?_⟩⟩
    intro w hSw
    try dsimp only at hSw
    go_simp
    try with_reducible rfl
  clear hcl
  intro hcl
  try simp only [Act.put, List.setIfInBounds_toArray, List.set_cons_zero, List.set_cons_succ]
  refine wpAnyT_take (i := 6) (v := ?_) (some 56) (by kernel_rfl) (by kernel_rfl) (by kernel_rfl) (by kernel_rfl) hN (by decide) hcl (fun _ _ _ h => h) (fun oi hoi => ?hy39) hS4 ?rs39
  case hy39 =>
    simp only [List.getElem?_toArray, List.getElem?_cons_succ, List.getElem?_cons_zero, Option.some.injEq] at hoi
    subst hoi
    refine ⟨rfl, Or.inl ⟨by rfl, ?_⟩⟩
    intro w hSw
    try dsimp only at hSw
    go_simp
    try with_reducible rfl
  clear hcl
  intro hcl
  try simp only [Act.put, List.setIfInBounds_toArray, List.set_cons_zero, List.set_cons_succ]
  refine wpAnyT_take (i := 7) (v := ?_) (some 57) (by kernel_rfl) (by kernel_rfl) (by kernel_rfl) (by kernel_rfl) hN (by decide) hcl (fun _ _ _ h => h) (fun oi hoi => ?hy40) hS4 ?rs40
  case hy40 =>
    simp only [List.getElem?_toArray, List.getElem?_cons_succ, List.getElem?_cons_zero, Option.some.injEq] at hoi
    subst hoi
    refine ⟨rfl, Or.inl ⟨by rfl, ?_⟩⟩
    intro w hSw
    try dsimp only at hSw
    go_simp
    try with_reducible rfl
  clear hcl
  intro hcl
  try simp only [Act.put, List.setIfInBounds_toArray, List.set_cons_zero, List.set_cons_succ]
  refine wpAnyT_one (i := 5) (by kernel_rfl) (by kernel_rfl) hcl (fun oi hoi K' hK' => ?_)
  clear hcl
  simp only [List.getElem?_toArray, List.getElem?_cons_succ, List.getElem?_cons_zero, Option.some.injEq] at hoi
  subst hoi
  go_simp
  refine (unhide HD).mono ?_
  rintro _ W5 ⟨rfl, k⟩
  have hS5 : W5.cell? ⟨xb, 0, none⟩ = some (.int .i64 o) ∧ W5.cell? ⟨xb, 1, none⟩ = some (.int .i64 (a : Int)) ∧ W5.cell? ⟨xb, 2, none⟩ = some (.int .i64 bb) ∧ W5.cell? ⟨xb, 3, none⟩ = some (.int .i64 c) ∧ W5.cell? ⟨xb, 4, none⟩ = some (.int .i64 d) := ⟨(k.cell (p := ⟨xb, 0, none⟩) hxl4 (by simp)).trans v0, (k.cell (p := ⟨xb, 1, none⟩) hxl4 (by simp)).trans v1, (k.cell (p := ⟨xb, 2, none⟩) hxl4 (by simp)).trans v2, (k.cell (p := ⟨xb, 3, none⟩) hxl4 (by simp)).trans v3, (k.cell (p := ⟨xb, 4, none⟩) hxl4 (by simp)).trans v4⟩
  have HS5 : Hid (SAt W5 mb e (some ⟨b, off, none⟩) cap p fan ⟨cs, pl + 1, L⟩ sv ∧ Only [mb] w W5) := ⟨(unhide HS4).1.only0 (((Only.refl [] W4).drew).trans k), (unhide HS4).2.trans ((((Only.refl [] W4).drew).trans k).mono (by simp))⟩
  have hlm5 : mb < W5.heap.size := Nat.lt_of_lt_of_le hlm4 k.size
  have t5 := (unhide HS5).1.m.cn ha
  have fz5 := (unhide HS5).1.m.fz (9 + a)
  clear hS4 k v0 v1 v2 v3 v4 hxl4 hlm4
  refine (unhide hK') _ _ (.inr hS5) (fun hcl => ?_)
  clear hK' K'
  try simp only [Act.put, List.setIfInBounds_toArray, List.set_cons_zero, List.set_cons_succ]
  refine wpAnyT_take (i := 8) (v := ?_) (some 58) (by kernel_rfl) (by kernel_rfl) (by kernel_rfl) (by kernel_rfl) hN (by decide) hcl (fun _ _ _ h => h) (fun oi hoi => ?hy41) hS5 ?rs41
  case hy41 =>
    simp only [List.getElem?_toArray, List.getElem?_cons_succ, List.getElem?_cons_zero, Option.some.injEq] at hoi
    subst hoi
    refine ⟨rfl, Or.inl ⟨by rfl, ?_⟩⟩
    intro w hSw
    try dsimp only at hSw
    go_simp
    try with_reducible rfl
  clear hcl
  intro hcl
  try simp only [Act.put, List.setIfInBounds_toArray, List.set_cons_zero, List.set_cons_succ]
  refine wpAnyT_one (i := 9) (by kernel_rfl) (by kernel_rfl) hcl (fun oi hoi K' hK' => ?_)
  clear hcl
  simp only [List.getElem?_toArray, List.getElem?_cons_succ, List.getElem?_cons_zero, Option.some.injEq] at hoi
  subst hoi
  go_simp
  refine (unhide hK') _ _ (.inl rfl) (fun hcl => ?_)
  clear hK' K'
  refine wpAnyT_done (by kernel_rfl) ?_ _
  clear hcl hN HD HD0 t5 fz5
  go_wp2_with fail
  go_ret
  refine ⟨rfl, sv, ?_, ?_⟩
  · rw [unhide HF]
    exact (unhide HS5).1.num ha z
  · exact Only.to_below (show Below mb w w from ⟨rfl, rfl, rfl, Nat.le_refl _, fun _ _ => rfl⟩) (((unhide HS5).2).setIn (by simp) _) (by simp) (Nat.le_of_lt (unhide HLM))
end
end Go.Proofs.YtipllcepoijbiaaDoor
