/-
  A step that sends.
-/
import Derived.Test.YtipllcepoijbiaaDoorH
namespace Go.Proofs.YtipllcepoijbiaaDoor
open Go.RowKit Go.Deep
set_option linter.unusedVariables false
set_option linter.unusedSimpArgs false
theorem info38 : (Tryd.prog.info? 38).map (fun i => (i.zero, i.size, i.bytes)) = some (some (.agg #[.int .i64 0, .int .i64 0, .int .i64 0, .int .i64 0]), 4, 32) := by kernel_rfl
theorem und34 : Tryd.prog.underlying 34 = some (.slice 38) := by kernel_rfl
theorem new_cells_drew (w : World) (cs : Array Value) (t b : Nat) (hb : w.heap.size = b) : ∀ j u, cs.toList[j]? = some u → (w.alloc (.cells cs t)).drew.cell? ((⟨b, 0, none⟩ : Addr).add j) = some u := by
  subst hb
  exact World.news_of_block (w := (w.alloc (.cells cs t)).drew) (heap_alloc_last w _)
section
variable {w : World} {mb : Nat} {e : Nat → Int} {A : Option Addr} {cap : Nat} {p : List I} {fan : Int} {s : S} {sv : Value}
set_option maxRecDepth 100000 in
set_option maxHeartbeats 8000000 in
theorem step_full (h : SAt w mb e A cap p fan s sv) (hn : p.length ≤ 1000) {a bb c : Nat} {d : Int} (hp : p[s.pl]? = some ⟨14, (a : Int), (bb : Int), (c : Int), d⟩) (hm : mayV ⟨14, (a : Int), (bb : Int), (c : Int), d⟩ (p.length : Int) = 0) (ha : a < 8) (hb : bb < 8) (hc : c < 8) (hf : ¬ (s.L.length : Int) < fan) :
    Calls Tryd.prog 7 #[.pointer (some ⟨mb, 0, none⟩)] w fun r w' => r = .returned (.bool true) ∧ ∃ sv', SAt w' mb e A cap p fan (doV ⟨14, (a : Int), (bb : Int), (c : Int), d⟩ e fan s) sv' ∧ Below mb w w' := by
  have HM := hide hm
  have HLM := hide h.lt
  have hmay := hm
  clear hm
  obtain ⟨A', c', rfl⟩ := owns_form h.l
  have HF : Hid (doV ⟨14, (a : Int), (bb : Int), (c : Int), d⟩ e fan s = ⟨s.cs, s.pl + 1, s.L⟩) := by
    show doV _ _ _ _ = _
    simp only [doV]
    rw [if_pos trivial, if_neg hf]
    try rfl
  have hfan : decide ((s.L.length : Int) < fan) = false := by simp; omega
  clear hf
  obtain ⟨cs, pl, L⟩ := s
  simp only at hp
  have hpl : pl < p.length := (List.getElem?_eq_some_iff.1 hp).1
  obtain ⟨b, off, rfl, hbl, x0, x1, x2, x3, x4⟩ := h.p pl _ hp
  simp only at x0 x1 x2 x3 x4
  have HS := hide h
  have hlt := h.lt
  have m7 := h.m.c7
  have m17 := h.m.c17
  simp only at m7 m17
  have HN := hide hn
  have HPL := hide hpl
  have d1 : decide ((p.length : Int) ≤ (pl : Int)) = false := by simp; omega
  have d2 : decide (p.length ≤ pl) = false := by simp; omega
  have d3 : decide ((pl : Int) < (p.length : Int)) = true := by simp; omega
  have d4 : decide (pl < p.length) = true := by simp; omega
  have d5 : decide (0 ≤ (pl : Int)) = true := by simp
  have d6 : (pl : Int) < (p.length : Int) := by omega
  clear h hn hp hpl
  go_enter Tryd.func7, Tryd.ntmps7
  go_wp2_with fail
  go_quiet (fail)
  have hh1 : (w.drewN nq).heap.size = w.heap.size := rfl
  have HS1 : Hid (SAt (w.drewN nq) mb e (some ⟨b, off, none⟩) cap p fan ⟨cs, pl, L⟩ (.slice A' L.length c') ∧ Only [] w (w.drewN nq)) := ⟨(unhide HS).only0 ((Only.refl [] w).drewN nq), (Only.refl [] w).drewN nq⟩
  have y0 : (w.drewN nq).cell? ⟨b, off + pl * 5, none⟩ = some (.int .i64 14) := x0
  have y1 : (w.drewN nq).cell? ⟨b, off + pl * 5 + 1, none⟩ = some (.int .i64 (a : Int)) := x1
  have y2 : (w.drewN nq).cell? ⟨b, off + pl * 5 + 2, none⟩ = some (.int .i64 (bb : Int)) := x2
  have y3 : (w.drewN nq).cell? ⟨b, off + pl * 5 + 3, none⟩ = some (.int .i64 (c : Int)) := x3
  have y4 : (w.drewN nq).cell? ⟨b, off + pl * 5 + 4, none⟩ = some (.int .i64 d) := x4
  have n7 : (w.drewN nq).cell? ⟨mb, 7, none⟩ = some (.slice (some ⟨b, off, none⟩) p.length cap) := m7
  have n17 : (w.drewN nq).cell? ⟨mb, 17, none⟩ = some (.int .i64 (pl : Int)) := m17
  rw [← hh1] at hlt hbl
  clear hh1 x0 x1 x2 x3 x4 m7 m17
  generalize w.drewN nq = w1 at *
  go_wp2_with fail
  go_region
  generalize hxb : w1.heap.size = xb
  rw [hxb] at hlt hbl
  have HOX : Hid (∀ k, (Value.slice A' L.length c').ownBlock = some k → k < xb) := by rw [← hxb]; exact own_lt (unhide HS1).1.l
  obtain ⟨W2, hW2⟩ : ∃ W2, (w1.alloc (Obj.cells #[Value.int IntKind.i64 14, Value.int IntKind.i64 (a : Int), Value.int IntKind.i64 (bb : Int), Value.int IntKind.i64 (c : Int), Value.int IntKind.i64 d] 33)).drew = W2 := ⟨_, rfl⟩
  have hO2 : Only [] w1 W2 := by rw [← hW2]; exact ((Only.refl [] w1).alloc _).drew
  have HS2 : Hid (SAt W2 mb e (some ⟨b, off, none⟩) cap p fan ⟨cs, pl, L⟩ (.slice A' L.length c') ∧ Only [] w W2) := ⟨(unhide HS1).1.only0 hO2, (unhide HS1).2.trans hO2⟩
  have hsz : W2.heap.size = xb + 1 := by rw [← hW2, ← hxb]; simp
  have hxl : xb < W2.heap.size := by omega
  have hmx : mb ≠ xb := by omega
  have hcl2 : ∀ (q : Nat) (v : Value), (#[Value.int IntKind.i64 14, Value.int IntKind.i64 (a : Int), Value.int IntKind.i64 (bb : Int), Value.int IntKind.i64 (c : Int), Value.int IntKind.i64 d] : Array Value)[q]? = some v → W2.cell? ⟨xb, q, none⟩ = some v := by
    intro q v hq
    rw [← hW2, ← hxb]
    have := cell_of_row (w1.alloc (Obj.cells #[Value.int IntKind.i64 14, Value.int IntKind.i64 (a : Int), Value.int IntKind.i64 (bb : Int), Value.int IntKind.i64 (c : Int), Value.int IntKind.i64 d] 33)) w1.heap.size q _ 33 (0, 0) (heap_alloc_last w1 _)
    exact this.trans hq
  have z0 := hcl2 0 _ rfl
  have z1 := hcl2 1 _ rfl
  have z2 := hcl2 2 _ rfl
  have z3 := hcl2 3 _ rfl
  have z4 := hcl2 4 _ rfl
  have k7 : W2.cell? ⟨mb, 7, none⟩ = some (.slice (some ⟨b, off, none⟩) p.length cap) := (unhide HS2).1.m.c7
  have k17 : W2.cell? ⟨mb, 17, none⟩ = some (.int .i64 (pl : Int)) := (unhide HS2).1.m.c17
  have HC : Hid (Calls Tryd.prog 12 #[.agg #[.int .i64 14, .int .i64 (a : Int), .int .i64 (bb : Int), .int .i64 (c : Int), .int .i64 d], .int .i64 (p.length : Int)] W2.drew fun e w' => e = .returned (.int .i64 (mayV ⟨14, (a : Int), (bb : Int), (c : Int), d⟩ (p.length : Int))) ∧ Only [] W2.drew w') := may_any ((unhide HS2).1.t.only (Only.refl [] _ |>.drew) (by simp))
  rw [hW2]
  have hlm : mb < W2.heap.size := by omega
  clear hW2 hcl2 hO2 y0 y1 y2 y3 y4 n7 n17 hlt hbl hsz hxb HS HS1 d1 d2 d3 d4 d5 d6
  clear w1
  go_upto_region 4 with fail
  have hS0 : W2.drew.cell? ⟨xb, 0, none⟩ = some (.int .i64 14) ∧ W2.drew.cell? ⟨xb, 1, none⟩ = some (.int .i64 (a : Int)) ∧ W2.drew.cell? ⟨xb, 2, none⟩ = some (.int .i64 (bb : Int)) ∧ W2.drew.cell? ⟨xb, 3, none⟩ = some (.int .i64 (c : Int)) ∧ W2.drew.cell? ⟨xb, 4, none⟩ = some (.int .i64 d) ∧ W2.drew.cell? ⟨mb, 7, none⟩ = some (.slice (some ⟨b, off, none⟩) p.length cap) := ⟨z0, z1, z2, z3, z4, k7⟩
  refine wp_region_T (fun w' => w'.cell? ⟨xb, 0, none⟩ = some (.int .i64 14) ∧ w'.cell? ⟨xb, 1, none⟩ = some (.int .i64 (a : Int)) ∧ w'.cell? ⟨xb, 2, none⟩ = some (.int .i64 (bb : Int)) ∧ w'.cell? ⟨xb, 3, none⟩ = some (.int .i64 (c : Int)) ∧ w'.cell? ⟨xb, 4, none⟩ = some (.int .i64 d) ∧ w'.cell? ⟨mb, 7, none⟩ = some (.slice (some ⟨b, off, none⟩) p.length cap)) 12 13 rfl (by kernel_rfl) (by kernel_rfl) (fun hN hcl => ?_)
  refine wpAnyT_take (i := 0) (v := ?_) (some 28) (by kernel_rfl) (by kernel_rfl) (by kernel_rfl) (by kernel_rfl) hN (by decide) hcl (fun _ _ _ h => h) (fun oi hoi => ?hy23) hS0 ?rs23
  case hy23 =>
    simp only [List.getElem?_toArray, List.getElem?_cons_succ, List.getElem?_cons_zero, Option.some.injEq] at hoi
    subst hoi
    refine ⟨rfl, Or.inl ⟨by rfl, ?_⟩⟩
    intro w hSw
    try dsimp only at hSw
    go_simp
    try with_reducible rfl
  clear hcl
  intro hcl
  try simp only [Act.put, List.setIfInBounds_toArray, List.set_cons_zero, List.set_cons_succ]
  refine wpAnyT_take (i := 1) (v := ?_) (some 29) (by kernel_rfl) (by kernel_rfl) (by kernel_rfl) (by kernel_rfl) hN (by decide) hcl (fun _ _ _ h => h) (fun oi hoi => ?hy24) hS0 ?rs24
  case hy24 =>
    simp only [List.getElem?_toArray, List.getElem?_cons_succ, List.getElem?_cons_zero, Option.some.injEq] at hoi
    subst hoi
    refine ⟨rfl, Or.inl ⟨by rfl, ?_⟩⟩
    intro w hSw
    try dsimp only at hSw
    go_simp
    try with_reducible rfl
  clear hcl
  intro hcl
  try simp only [Act.put, List.setIfInBounds_toArray, List.set_cons_zero, List.set_cons_succ]
  refine wpAnyT_take (i := 2) (v := ?_) (some 30) (by kernel_rfl) (by kernel_rfl) (by kernel_rfl) (by kernel_rfl) hN (by decide) hcl (fun _ _ _ h => h) (fun oi hoi => ?hy25) hS0 ?rs25
  case hy25 =>
    simp only [List.getElem?_toArray, List.getElem?_cons_succ, List.getElem?_cons_zero, Option.some.injEq] at hoi
    subst hoi
    refine ⟨rfl, Or.inl ⟨by rfl, ?_⟩⟩
    intro w hSw
    try dsimp only at hSw
    go_simp
    try with_reducible rfl
  clear hcl
  intro hcl
  try simp only [Act.put, List.setIfInBounds_toArray, List.set_cons_zero, List.set_cons_succ]
  refine wpAnyT_take (i := 3) (v := ?_) (some 31) (by kernel_rfl) (by kernel_rfl) (by kernel_rfl) (by kernel_rfl) hN (by decide) hcl (fun _ _ _ h => h) (fun oi hoi => ?hy26) hS0 ?rs26
  case hy26 =>
    simp only [List.getElem?_toArray, List.getElem?_cons_succ, List.getElem?_cons_zero, Option.some.injEq] at hoi
    subst hoi
    refine ⟨rfl, Or.inl ⟨by rfl, ?_⟩⟩
    intro w hSw
    try dsimp only at hSw
    go_simp
    try with_reducible rfl
  clear hcl
  intro hcl
  try simp only [Act.put, List.setIfInBounds_toArray, List.set_cons_zero, List.set_cons_succ]
  refine wpAnyT_take (i := 4) (v := ?_) (some 32) (by kernel_rfl) (by kernel_rfl) (by kernel_rfl) (by kernel_rfl) hN (by decide) hcl (fun _ _ _ h => h) (fun oi hoi => ?hy27) hS0 ?rs27
  case hy27 =>
    simp only [List.getElem?_toArray, List.getElem?_cons_succ, List.getElem?_cons_zero, Option.some.injEq] at hoi
    subst hoi
    refine ⟨rfl, Or.inl ⟨by rfl, ?_⟩⟩
    intro w hSw
    try dsimp only at hSw
    go_simp
    try with_reducible rfl
  clear hcl
  intro hcl
  try simp only [Act.put, List.setIfInBounds_toArray, List.set_cons_zero, List.set_cons_succ]
  refine wpAnyT_take (i := 5) (v := ?_) (some 33) (by kernel_rfl) (by kernel_rfl) (by kernel_rfl) (by kernel_rfl) hN (by decide) hcl (fun _ _ _ h => h) (fun oi hoi => ?hy28) hS0 ?rs28
  case hy28 =>
    simp only [List.getElem?_toArray, List.getElem?_cons_succ, List.getElem?_cons_zero, Option.some.injEq] at hoi
    subst hoi
    refine ⟨rfl, Or.inl ⟨by rfl, ?_⟩⟩
    intro w hSw
    try dsimp only at hSw
    go_simp
    try with_reducible rfl
  clear hcl
  intro hcl
  try simp only [Act.put, List.setIfInBounds_toArray, List.set_cons_zero, List.set_cons_succ]
  refine wpAnyT_one (i := 6) (by kernel_rfl) (by kernel_rfl) hcl (fun oi hoi K' hK' => ?_)
  clear hcl
  simp only [List.getElem?_toArray, List.getElem?_cons_succ, List.getElem?_cons_zero, Option.some.injEq] at hoi
  subst hoi
  go_simp
  refine (unhide HC).mono ?_
  rintro _ W3 ⟨rfl, k⟩
  have hS1 : W3.cell? ⟨xb, 0, none⟩ = some (.int .i64 14) ∧ W3.cell? ⟨xb, 1, none⟩ = some (.int .i64 (a : Int)) ∧ W3.cell? ⟨xb, 2, none⟩ = some (.int .i64 (bb : Int)) ∧ W3.cell? ⟨xb, 3, none⟩ = some (.int .i64 (c : Int)) ∧ W3.cell? ⟨xb, 4, none⟩ = some (.int .i64 d) ∧ W3.cell? ⟨mb, 7, none⟩ = some (.slice (some ⟨b, off, none⟩) p.length cap) := ⟨(k.cell (p := ⟨xb, 0, none⟩) hxl (by simp)).trans z0, (k.cell (p := ⟨xb, 1, none⟩) hxl (by simp)).trans z1, (k.cell (p := ⟨xb, 2, none⟩) hxl (by simp)).trans z2, (k.cell (p := ⟨xb, 3, none⟩) hxl (by simp)).trans z3, (k.cell (p := ⟨xb, 4, none⟩) hxl (by simp)).trans z4, (k.cell (p := ⟨mb, 7, none⟩) hlm (by simp)).trans k7⟩
  have HS3 : Hid (SAt W3 mb e (some ⟨b, off, none⟩) cap p fan ⟨cs, pl, L⟩ (.slice A' L.length c') ∧ Only [] w W3) := ⟨(unhide HS2).1.only0 (((Only.refl [] W2).drew).trans k), (unhide HS2).2.trans (((Only.refl [] W2).drew).trans k)⟩
  have hxl3 : xb < W3.heap.size := Nat.lt_of_lt_of_le hxl k.size
  have hlm3 : mb < W3.heap.size := Nat.lt_of_lt_of_le hlm k.size
  clear hS0 k z0 z1 z2 z3 z4 k7 k17 hxl hlm
  try simp only [hmay]
  refine (unhide hK') _ _ (.inr hS1) (fun hcl => ?_)
  clear hK' K'
  try simp only [Act.put, List.setIfInBounds_toArray, List.set_cons_zero, List.set_cons_succ]
  refine wpAnyT_take (i := 7) (v := ?_) (some 35) (by kernel_rfl) (by kernel_rfl) (by kernel_rfl) (by kernel_rfl) hN (by decide) hcl (fun _ _ _ h => h) (fun oi hoi => ?hy29) hS1 ?rs29
  case hy29 =>
    simp only [List.getElem?_toArray, List.getElem?_cons_succ, List.getElem?_cons_zero, Option.some.injEq] at hoi
    subst hoi
    refine ⟨rfl, Or.inl ⟨by rfl, ?_⟩⟩
    intro w hSw
    try dsimp only at hSw
    go_simp
    try with_reducible rfl
  clear hcl
  intro hcl
  try simp only [Act.put, List.setIfInBounds_toArray, List.set_cons_zero, List.set_cons_succ]
  refine wpAnyT_take (i := 8) (v := ?_) (some 36) (by kernel_rfl) (by kernel_rfl) (by kernel_rfl) (by kernel_rfl) hN (by decide) hcl (fun _ _ _ h => h) (fun oi hoi => ?hy30) hS1 ?rs30
  case hy30 =>
    simp only [List.getElem?_toArray, List.getElem?_cons_succ, List.getElem?_cons_zero, Option.some.injEq] at hoi
    subst hoi
    refine ⟨rfl, Or.inl ⟨by rfl, ?_⟩⟩
    intro w hSw
    try dsimp only at hSw
    go_simp
    try with_reducible rfl
  clear hcl
  intro hcl
  try simp only [Act.put, List.setIfInBounds_toArray, List.set_cons_zero, List.set_cons_succ]
  refine wpAnyT_take (i := 9) (v := ?_) (some 37) (by kernel_rfl) (by kernel_rfl) (by kernel_rfl) (by kernel_rfl) hN (by decide) hcl (fun _ _ _ h => h) (fun oi hoi => ?hy31) hS1 ?rs31
  case hy31 =>
    simp only [List.getElem?_toArray, List.getElem?_cons_succ, List.getElem?_cons_zero, Option.some.injEq] at hoi
    subst hoi
    refine ⟨rfl, Or.inl ⟨by rfl, ?_⟩⟩
    intro w hSw
    try dsimp only at hSw
    go_simp
    try with_reducible rfl
  clear hcl
  intro hcl
  try simp only [Act.put, List.setIfInBounds_toArray, List.set_cons_zero, List.set_cons_succ]
  refine wpAnyT_take (i := 10) (v := ?_) (some 38) (by kernel_rfl) (by kernel_rfl) (by kernel_rfl) (by kernel_rfl) hN (by decide) hcl (fun _ _ _ h => h) (fun oi hoi => ?hy32) hS1 ?rs32
  case hy32 =>
    simp only [List.getElem?_toArray, List.getElem?_cons_succ, List.getElem?_cons_zero, Option.some.injEq] at hoi
    subst hoi
    refine ⟨rfl, Or.inl ⟨by rfl, ?_⟩⟩
    intro w hSw
    try dsimp only at hSw
    go_simp
    try with_reducible rfl
  clear hcl
  intro hcl
  try simp only [Act.put, List.setIfInBounds_toArray, List.set_cons_zero, List.set_cons_succ]
  refine wpAnyT_take (i := 11) (v := ?_) (some 39) (by kernel_rfl) (by kernel_rfl) (by kernel_rfl) (by kernel_rfl) hN (by decide) hcl (fun _ _ _ h => h) (fun oi hoi => ?hy33) hS1 ?rs33
  case hy33 =>
    simp only [List.getElem?_toArray, List.getElem?_cons_succ, List.getElem?_cons_zero, Option.some.injEq] at hoi
    subst hoi
    refine ⟨rfl, Or.inl ⟨by rfl, ?_⟩⟩
    intro w hSw
    try dsimp only at hSw
    go_simp
    try with_reducible rfl
  clear hcl
  intro hcl
  try simp only [Act.put, List.setIfInBounds_toArray, List.set_cons_zero, List.set_cons_succ]
  refine wpAnyT_one (i := 12) (by kernel_rfl) (by kernel_rfl) hcl (fun oi hoi K' hK' => ?_)
  clear hcl
  simp only [List.getElem?_toArray, List.getElem?_cons_succ, List.getElem?_cons_zero, Option.some.injEq] at hoi
  subst hoi
  go_simp
  refine (unhide hK') _ _ (.inl rfl) (fun hcl => ?_)
  clear hK' K'
  refine wpAnyT_done (by kernel_rfl) ?_ _
  clear hcl hN HC
  obtain ⟨u0, u1, u2, u3, u4, u7⟩ := hS1
  have u17 : W3.cell? ⟨mb, 17, none⟩ = some (.int .i64 (pl : Int)) := (unhide HS3).1.m.c17
  have f17 := (unhide HS3).1.m.fz 17
  have hw : IntKind.i64.wrap ((pl : Int) + 1) = (pl : Int) + 1 := by
    have h1 := unhide HN
    have h2 := unhide HPL
    rw [Go.IntWalk.i64_left]
    exact Go.IntWalk.wrap64_in _ (by omega)
  clear HS2
  go_upto_region 15 with fail
  have HS4 : Hid (SAt (W3.setCell ⟨mb, 17, none⟩ (.int .i64 ((pl : Int) + 1))) mb e (some ⟨b, off, none⟩) cap p fan ⟨cs, pl + 1, L⟩ (.slice A' L.length c') ∧ Only [mb] w (W3.setCell ⟨mb, 17, none⟩ (.int .i64 ((pl : Int) + 1)))) := ⟨by have := (unhide HS3).1.at17 (pl + 1); simpa using this, ((unhide HS3).2.mono (by simp)).setIn (by simp) _⟩
  have hO4 : Only [mb] W3 (W3.setCell ⟨mb, 17, none⟩ (.int .i64 ((pl : Int) + 1))) := (Only.refl [mb] W3).setIn (by simp) _
  have v0 := (hO4.cell (p := ⟨xb, 0, none⟩) hxl3 (by simpa using Ne.symm hmx)).trans u0
  have v1 := (hO4.cell (p := ⟨xb, 1, none⟩) hxl3 (by simpa using Ne.symm hmx)).trans u1
  have v2 := (hO4.cell (p := ⟨xb, 2, none⟩) hxl3 (by simpa using Ne.symm hmx)).trans u2
  have v3 := (hO4.cell (p := ⟨xb, 3, none⟩) hxl3 (by simpa using Ne.symm hmx)).trans u3
  have v4 := (hO4.cell (p := ⟨xb, 4, none⟩) hxl3 (by simpa using Ne.symm hmx)).trans u4
  have hxl4 : xb < (W3.setCell ⟨mb, 17, none⟩ (.int .i64 ((pl : Int) + 1))).heap.size := Nat.lt_of_lt_of_le hxl3 hO4.size
  have hlm4 : mb < (W3.setCell ⟨mb, 17, none⟩ (.int .i64 ((pl : Int) + 1))).heap.size := Nat.lt_of_lt_of_le hlm3 hO4.size
  clear hO4 u0 u1 u2 u3 u4 u7 u17 f17 hw hxl3 hlm3 HS3
  generalize W3.setCell ⟨mb, 17, none⟩ (.int .i64 ((pl : Int) + 1)) = W4 at *
  have k8 := (unhide HS4).1.m.c8
  have k18 := (unhide HS4).1.m.c18
  try simp only at k18
  go_quiet (fail)
  go_wp2_with fail
  go_ret
  refine ⟨rfl, .slice A' L.length c', ?_, ?_⟩
  · rw [unhide HF]
    exact (unhide HS4).1.only0 ((Only.refl [] _).drewN nq)
  · exact Only.to_below (show Below mb w w from ⟨rfl, rfl, rfl, Nat.le_refl _, fun _ _ => rfl⟩) ((unhide HS4).2.drewN nq) (by simp) (Nat.le_of_lt (unhide HLM))
set_option maxRecDepth 100000 in
set_option maxHeartbeats 8000000 in
theorem step_send (h : SAt w mb e A cap p fan s sv) (hn : p.length ≤ 1000) {a bb c : Nat} {d : Int} (hp : p[s.pl]? = some ⟨14, (a : Int), (bb : Int), (c : Int), d⟩) (hm : mayV ⟨14, (a : Int), (bb : Int), (c : Int), d⟩ (p.length : Int) = 0) (ha : a < 8) (hb : bb < 8) (hc : c < 8) (hf : (s.L.length : Int) < fan) (hL : s.L.length ≤ 100000) :
    Calls Tryd.prog 7 #[.pointer (some ⟨mb, 0, none⟩)] w fun r w' => r = .returned (.bool true) ∧ ∃ sv', SAt w' mb e A cap p fan (doV ⟨14, (a : Int), (bb : Int), (c : Int), d⟩ e fan s) sv' ∧ Below mb w w' := by
  have HM := hide hm
  have HLM := hide h.lt
  have hmay := hm
  clear hm
  obtain ⟨A', c', rfl⟩ := owns_form h.l
  have HF : Hid (doV ⟨14, (a : Int), (bb : Int), (c : Int), d⟩ e fan s = ⟨s.cs, s.pl + 1, s.L ++ [⟨s.cs a, s.cs bb, d, s.cs c⟩]⟩) := by
    show doV _ _ _ _ = _
    simp only [doV]
    rw [if_pos trivial, if_pos hf]
    try rfl
  have HL := hide hL
  clear hL
  have hfan : decide ((s.L.length : Int) < fan) = true := by simp; omega
  clear hf
  obtain ⟨cs, pl, L⟩ := s
  simp only at hp
  have hpl : pl < p.length := (List.getElem?_eq_some_iff.1 hp).1
  obtain ⟨b, off, rfl, hbl, x0, x1, x2, x3, x4⟩ := h.p pl _ hp
  simp only at x0 x1 x2 x3 x4
  have HS := hide h
  have hlt := h.lt
  have m7 := h.m.c7
  have m17 := h.m.c17
  simp only at m7 m17
  have HN := hide hn
  have HPL := hide hpl
  have d1 : decide ((p.length : Int) ≤ (pl : Int)) = false := by simp; omega
  have d2 : decide (p.length ≤ pl) = false := by simp; omega
  have d3 : decide ((pl : Int) < (p.length : Int)) = true := by simp; omega
  have d4 : decide (pl < p.length) = true := by simp; omega
  have d5 : decide (0 ≤ (pl : Int)) = true := by simp
  have d6 : (pl : Int) < (p.length : Int) := by omega
  clear h hn hp hpl
  go_enter Tryd.func7, Tryd.ntmps7
  go_wp2_with fail
  go_quiet (fail)
  have hh1 : (w.drewN nq).heap.size = w.heap.size := rfl
  have HS1 : Hid (SAt (w.drewN nq) mb e (some ⟨b, off, none⟩) cap p fan ⟨cs, pl, L⟩ (.slice A' L.length c') ∧ Only [] w (w.drewN nq)) := ⟨(unhide HS).only0 ((Only.refl [] w).drewN nq), (Only.refl [] w).drewN nq⟩
  have y0 : (w.drewN nq).cell? ⟨b, off + pl * 5, none⟩ = some (.int .i64 14) := x0
  have y1 : (w.drewN nq).cell? ⟨b, off + pl * 5 + 1, none⟩ = some (.int .i64 (a : Int)) := x1
  have y2 : (w.drewN nq).cell? ⟨b, off + pl * 5 + 2, none⟩ = some (.int .i64 (bb : Int)) := x2
  have y3 : (w.drewN nq).cell? ⟨b, off + pl * 5 + 3, none⟩ = some (.int .i64 (c : Int)) := x3
  have y4 : (w.drewN nq).cell? ⟨b, off + pl * 5 + 4, none⟩ = some (.int .i64 d) := x4
  have n7 : (w.drewN nq).cell? ⟨mb, 7, none⟩ = some (.slice (some ⟨b, off, none⟩) p.length cap) := m7
  have n17 : (w.drewN nq).cell? ⟨mb, 17, none⟩ = some (.int .i64 (pl : Int)) := m17
  rw [← hh1] at hlt hbl
  clear hh1 x0 x1 x2 x3 x4 m7 m17
  generalize w.drewN nq = w1 at *
  go_wp2_with fail
  go_region
  generalize hxb : w1.heap.size = xb
  rw [hxb] at hlt hbl
  have HOX : Hid (∀ k, (Value.slice A' L.length c').ownBlock = some k → k < xb) := by rw [← hxb]; exact own_lt (unhide HS1).1.l
  obtain ⟨W2, hW2⟩ : ∃ W2, (w1.alloc (Obj.cells #[Value.int IntKind.i64 14, Value.int IntKind.i64 (a : Int), Value.int IntKind.i64 (bb : Int), Value.int IntKind.i64 (c : Int), Value.int IntKind.i64 d] 33)).drew = W2 := ⟨_, rfl⟩
  have hO2 : Only [] w1 W2 := by rw [← hW2]; exact ((Only.refl [] w1).alloc _).drew
  have HS2 : Hid (SAt W2 mb e (some ⟨b, off, none⟩) cap p fan ⟨cs, pl, L⟩ (.slice A' L.length c') ∧ Only [] w W2) := ⟨(unhide HS1).1.only0 hO2, (unhide HS1).2.trans hO2⟩
  have hsz : W2.heap.size = xb + 1 := by rw [← hW2, ← hxb]; simp
  have hxl : xb < W2.heap.size := by omega
  have hmx : mb ≠ xb := by omega
  have hcl2 : ∀ (q : Nat) (v : Value), (#[Value.int IntKind.i64 14, Value.int IntKind.i64 (a : Int), Value.int IntKind.i64 (bb : Int), Value.int IntKind.i64 (c : Int), Value.int IntKind.i64 d] : Array Value)[q]? = some v → W2.cell? ⟨xb, q, none⟩ = some v := by
    intro q v hq
    rw [← hW2, ← hxb]
    have := cell_of_row (w1.alloc (Obj.cells #[Value.int IntKind.i64 14, Value.int IntKind.i64 (a : Int), Value.int IntKind.i64 (bb : Int), Value.int IntKind.i64 (c : Int), Value.int IntKind.i64 d] 33)) w1.heap.size q _ 33 (0, 0) (heap_alloc_last w1 _)
    exact this.trans hq
  have z0 := hcl2 0 _ rfl
  have z1 := hcl2 1 _ rfl
  have z2 := hcl2 2 _ rfl
  have z3 := hcl2 3 _ rfl
  have z4 := hcl2 4 _ rfl
  have k7 : W2.cell? ⟨mb, 7, none⟩ = some (.slice (some ⟨b, off, none⟩) p.length cap) := (unhide HS2).1.m.c7
  have k17 : W2.cell? ⟨mb, 17, none⟩ = some (.int .i64 (pl : Int)) := (unhide HS2).1.m.c17
  have HC : Hid (Calls Tryd.prog 12 #[.agg #[.int .i64 14, .int .i64 (a : Int), .int .i64 (bb : Int), .int .i64 (c : Int), .int .i64 d], .int .i64 (p.length : Int)] W2.drew fun e w' => e = .returned (.int .i64 (mayV ⟨14, (a : Int), (bb : Int), (c : Int), d⟩ (p.length : Int))) ∧ Only [] W2.drew w') := may_any ((unhide HS2).1.t.only (Only.refl [] _ |>.drew) (by simp))
  rw [hW2]
  have hlm : mb < W2.heap.size := by omega
  clear hW2 hcl2 hO2 y0 y1 y2 y3 y4 n7 n17 hlt hbl hsz hxb HS HS1 d1 d2 d3 d4 d5 d6
  clear w1
  go_upto_region 4 with fail
  have hS0 : W2.drew.cell? ⟨xb, 0, none⟩ = some (.int .i64 14) ∧ W2.drew.cell? ⟨xb, 1, none⟩ = some (.int .i64 (a : Int)) ∧ W2.drew.cell? ⟨xb, 2, none⟩ = some (.int .i64 (bb : Int)) ∧ W2.drew.cell? ⟨xb, 3, none⟩ = some (.int .i64 (c : Int)) ∧ W2.drew.cell? ⟨xb, 4, none⟩ = some (.int .i64 d) ∧ W2.drew.cell? ⟨mb, 7, none⟩ = some (.slice (some ⟨b, off, none⟩) p.length cap) := ⟨z0, z1, z2, z3, z4, k7⟩
  refine wp_region_T (fun w' => w'.cell? ⟨xb, 0, none⟩ = some (.int .i64 14) ∧ w'.cell? ⟨xb, 1, none⟩ = some (.int .i64 (a : Int)) ∧ w'.cell? ⟨xb, 2, none⟩ = some (.int .i64 (bb : Int)) ∧ w'.cell? ⟨xb, 3, none⟩ = some (.int .i64 (c : Int)) ∧ w'.cell? ⟨xb, 4, none⟩ = some (.int .i64 d) ∧ w'.cell? ⟨mb, 7, none⟩ = some (.slice (some ⟨b, off, none⟩) p.length cap)) 12 13 rfl (by kernel_rfl) (by kernel_rfl) (fun hN hcl => ?_)
  refine wpAnyT_take (i := 0) (v := ?_) (some 28) (by kernel_rfl) (by kernel_rfl) (by kernel_rfl) (by kernel_rfl) hN (by decide) hcl (fun _ _ _ h => h) (fun oi hoi => ?hy23) hS0 ?rs23
  case hy23 =>
    simp only [List.getElem?_toArray, List.getElem?_cons_succ, List.getElem?_cons_zero, Option.some.injEq] at hoi
    subst hoi
    refine ⟨rfl, Or.inl ⟨by rfl, ?_⟩⟩
    intro w hSw
    try dsimp only at hSw
    go_simp
    try with_reducible rfl
  clear hcl
  intro hcl
  try simp only [Act.put, List.setIfInBounds_toArray, List.set_cons_zero, List.set_cons_succ]
  refine wpAnyT_take (i := 1) (v := ?_) (some 29) (by kernel_rfl) (by kernel_rfl) (by kernel_rfl) (by kernel_rfl) hN (by decide) hcl (fun _ _ _ h => h) (fun oi hoi => ?hy24) hS0 ?rs24
  case hy24 =>
    simp only [List.getElem?_toArray, List.getElem?_cons_succ, List.getElem?_cons_zero, Option.some.injEq] at hoi
    subst hoi
    refine ⟨rfl, Or.inl ⟨by rfl, ?_⟩⟩
    intro w hSw
    try dsimp only at hSw
    go_simp
    try with_reducible rfl
  clear hcl
  intro hcl
  try simp only [Act.put, List.setIfInBounds_toArray, List.set_cons_zero, List.set_cons_succ]
  refine wpAnyT_take (i := 2) (v := ?_) (some 30) (by kernel_rfl) (by kernel_rfl) (by kernel_rfl) (by kernel_rfl) hN (by decide) hcl (fun _ _ _ h => h) (fun oi hoi => ?hy25) hS0 ?rs25
  case hy25 =>
    simp only [List.getElem?_toArray, List.getElem?_cons_succ, List.getElem?_cons_zero, Option.some.injEq] at hoi
    subst hoi
    refine ⟨rfl, Or.inl ⟨by rfl, ?_⟩⟩
    intro w hSw
    try dsimp only at hSw
    go_simp
    try with_reducible rfl
  clear hcl
  intro hcl
  try simp only [Act.put, List.setIfInBounds_toArray, List.set_cons_zero, List.set_cons_succ]
  refine wpAnyT_take (i := 3) (v := ?_) (some 31) (by kernel_rfl) (by kernel_rfl) (by kernel_rfl) (by kernel_rfl) hN (by decide) hcl (fun _ _ _ h => h) (fun oi hoi => ?hy26) hS0 ?rs26
  case hy26 =>
    simp only [List.getElem?_toArray, List.getElem?_cons_succ, List.getElem?_cons_zero, Option.some.injEq] at hoi
    subst hoi
    refine ⟨rfl, Or.inl ⟨by rfl, ?_⟩⟩
    intro w hSw
    try dsimp only at hSw
    go_simp
    try with_reducible rfl
  clear hcl
  intro hcl
  try simp only [Act.put, List.setIfInBounds_toArray, List.set_cons_zero, List.set_cons_succ]
  refine wpAnyT_take (i := 4) (v := ?_) (some 32) (by kernel_rfl) (by kernel_rfl) (by kernel_rfl) (by kernel_rfl) hN (by decide) hcl (fun _ _ _ h => h) (fun oi hoi => ?hy27) hS0 ?rs27
  case hy27 =>
    simp only [List.getElem?_toArray, List.getElem?_cons_succ, List.getElem?_cons_zero, Option.some.injEq] at hoi
    subst hoi
    refine ⟨rfl, Or.inl ⟨by rfl, ?_⟩⟩
    intro w hSw
    try dsimp only at hSw
    go_simp
    try with_reducible rfl
  clear hcl
  intro hcl
  try simp only [Act.put, List.setIfInBounds_toArray, List.set_cons_zero, List.set_cons_succ]
  refine wpAnyT_take (i := 5) (v := ?_) (some 33) (by kernel_rfl) (by kernel_rfl) (by kernel_rfl) (by kernel_rfl) hN (by decide) hcl (fun _ _ _ h => h) (fun oi hoi => ?hy28) hS0 ?rs28
  case hy28 =>
    simp only [List.getElem?_toArray, List.getElem?_cons_succ, List.getElem?_cons_zero, Option.some.injEq] at hoi
    subst hoi
    refine ⟨rfl, Or.inl ⟨by rfl, ?_⟩⟩
    intro w hSw
    try dsimp only at hSw
    go_simp
    try with_reducible rfl
  clear hcl
  intro hcl
  try simp only [Act.put, List.setIfInBounds_toArray, List.set_cons_zero, List.set_cons_succ]
  refine wpAnyT_one (i := 6) (by kernel_rfl) (by kernel_rfl) hcl (fun oi hoi K' hK' => ?_)
  clear hcl
  simp only [List.getElem?_toArray, List.getElem?_cons_succ, List.getElem?_cons_zero, Option.some.injEq] at hoi
  subst hoi
  go_simp
  refine (unhide HC).mono ?_
  rintro _ W3 ⟨rfl, k⟩
  have hS1 : W3.cell? ⟨xb, 0, none⟩ = some (.int .i64 14) ∧ W3.cell? ⟨xb, 1, none⟩ = some (.int .i64 (a : Int)) ∧ W3.cell? ⟨xb, 2, none⟩ = some (.int .i64 (bb : Int)) ∧ W3.cell? ⟨xb, 3, none⟩ = some (.int .i64 (c : Int)) ∧ W3.cell? ⟨xb, 4, none⟩ = some (.int .i64 d) ∧ W3.cell? ⟨mb, 7, none⟩ = some (.slice (some ⟨b, off, none⟩) p.length cap) := ⟨(k.cell (p := ⟨xb, 0, none⟩) hxl (by simp)).trans z0, (k.cell (p := ⟨xb, 1, none⟩) hxl (by simp)).trans z1, (k.cell (p := ⟨xb, 2, none⟩) hxl (by simp)).trans z2, (k.cell (p := ⟨xb, 3, none⟩) hxl (by simp)).trans z3, (k.cell (p := ⟨xb, 4, none⟩) hxl (by simp)).trans z4, (k.cell (p := ⟨mb, 7, none⟩) hlm (by simp)).trans k7⟩
  have HS3 : Hid (SAt W3 mb e (some ⟨b, off, none⟩) cap p fan ⟨cs, pl, L⟩ (.slice A' L.length c') ∧ Only [] w W3) := ⟨(unhide HS2).1.only0 (((Only.refl [] W2).drew).trans k), (unhide HS2).2.trans (((Only.refl [] W2).drew).trans k)⟩
  have hxl3 : xb < W3.heap.size := Nat.lt_of_lt_of_le hxl k.size
  have hlm3 : mb < W3.heap.size := Nat.lt_of_lt_of_le hlm k.size
  clear hS0 k z0 z1 z2 z3 z4 k7 k17 hxl hlm
  try simp only [hmay]
  refine (unhide hK') _ _ (.inr hS1) (fun hcl => ?_)
  clear hK' K'
  try simp only [Act.put, List.setIfInBounds_toArray, List.set_cons_zero, List.set_cons_succ]
  refine wpAnyT_take (i := 7) (v := ?_) (some 35) (by kernel_rfl) (by kernel_rfl) (by kernel_rfl) (by kernel_rfl) hN (by decide) hcl (fun _ _ _ h => h) (fun oi hoi => ?hy29) hS1 ?rs29
  case hy29 =>
    simp only [List.getElem?_toArray, List.getElem?_cons_succ, List.getElem?_cons_zero, Option.some.injEq] at hoi
    subst hoi
    refine ⟨rfl, Or.inl ⟨by rfl, ?_⟩⟩
    intro w hSw
    try dsimp only at hSw
    go_simp
    try with_reducible rfl
  clear hcl
  intro hcl
  try simp only [Act.put, List.setIfInBounds_toArray, List.set_cons_zero, List.set_cons_succ]
  refine wpAnyT_take (i := 8) (v := ?_) (some 36) (by kernel_rfl) (by kernel_rfl) (by kernel_rfl) (by kernel_rfl) hN (by decide) hcl (fun _ _ _ h => h) (fun oi hoi => ?hy30) hS1 ?rs30
  case hy30 =>
    simp only [List.getElem?_toArray, List.getElem?_cons_succ, List.getElem?_cons_zero, Option.some.injEq] at hoi
    subst hoi
    refine ⟨rfl, Or.inl ⟨by rfl, ?_⟩⟩
    intro w hSw
    try dsimp only at hSw
    go_simp
    try with_reducible rfl
  clear hcl
  intro hcl
  try simp only [Act.put, List.setIfInBounds_toArray, List.set_cons_zero, List.set_cons_succ]
  refine wpAnyT_take (i := 9) (v := ?_) (some 37) (by kernel_rfl) (by kernel_rfl) (by kernel_rfl) (by kernel_rfl) hN (by decide) hcl (fun _ _ _ h => h) (fun oi hoi => ?hy31) hS1 ?rs31
  case hy31 =>
    simp only [List.getElem?_toArray, List.getElem?_cons_succ, List.getElem?_cons_zero, Option.some.injEq] at hoi
    subst hoi
    refine ⟨rfl, Or.inl ⟨by rfl, ?_⟩⟩
    intro w hSw
    try dsimp only at hSw
    go_simp
    try with_reducible rfl
  clear hcl
  intro hcl
  try simp only [Act.put, List.setIfInBounds_toArray, List.set_cons_zero, List.set_cons_succ]
  refine wpAnyT_take (i := 10) (v := ?_) (some 38) (by kernel_rfl) (by kernel_rfl) (by kernel_rfl) (by kernel_rfl) hN (by decide) hcl (fun _ _ _ h => h) (fun oi hoi => ?hy32) hS1 ?rs32
  case hy32 =>
    simp only [List.getElem?_toArray, List.getElem?_cons_succ, List.getElem?_cons_zero, Option.some.injEq] at hoi
    subst hoi
    refine ⟨rfl, Or.inl ⟨by rfl, ?_⟩⟩
    intro w hSw
    try dsimp only at hSw
    go_simp
    try with_reducible rfl
  clear hcl
  intro hcl
  try simp only [Act.put, List.setIfInBounds_toArray, List.set_cons_zero, List.set_cons_succ]
  refine wpAnyT_take (i := 11) (v := ?_) (some 39) (by kernel_rfl) (by kernel_rfl) (by kernel_rfl) (by kernel_rfl) hN (by decide) hcl (fun _ _ _ h => h) (fun oi hoi => ?hy33) hS1 ?rs33
  case hy33 =>
    simp only [List.getElem?_toArray, List.getElem?_cons_succ, List.getElem?_cons_zero, Option.some.injEq] at hoi
    subst hoi
    refine ⟨rfl, Or.inl ⟨by rfl, ?_⟩⟩
    intro w hSw
    try dsimp only at hSw
    go_simp
    try with_reducible rfl
  clear hcl
  intro hcl
  try simp only [Act.put, List.setIfInBounds_toArray, List.set_cons_zero, List.set_cons_succ]
  refine wpAnyT_one (i := 12) (by kernel_rfl) (by kernel_rfl) hcl (fun oi hoi K' hK' => ?_)
  clear hcl
  simp only [List.getElem?_toArray, List.getElem?_cons_succ, List.getElem?_cons_zero, Option.some.injEq] at hoi
  subst hoi
  go_simp
  refine (unhide hK') _ _ (.inl rfl) (fun hcl => ?_)
  clear hK' K'
  refine wpAnyT_done (by kernel_rfl) ?_ _
  clear hcl hN HC
  obtain ⟨u0, u1, u2, u3, u4, u7⟩ := hS1
  have u17 : W3.cell? ⟨mb, 17, none⟩ = some (.int .i64 (pl : Int)) := (unhide HS3).1.m.c17
  have f17 := (unhide HS3).1.m.fz 17
  have hw : IntKind.i64.wrap ((pl : Int) + 1) = (pl : Int) + 1 := by
    have h1 := unhide HN
    have h2 := unhide HPL
    rw [Go.IntWalk.i64_left]
    exact Go.IntWalk.wrap64_in _ (by omega)
  clear HS2
  go_upto_region 15 with fail
  have HS4 : Hid (SAt (W3.setCell ⟨mb, 17, none⟩ (.int .i64 ((pl : Int) + 1))) mb e (some ⟨b, off, none⟩) cap p fan ⟨cs, pl + 1, L⟩ (.slice A' L.length c') ∧ Only [mb] w (W3.setCell ⟨mb, 17, none⟩ (.int .i64 ((pl : Int) + 1)))) := ⟨by have := (unhide HS3).1.at17 (pl + 1); simpa using this, ((unhide HS3).2.mono (by simp)).setIn (by simp) _⟩
  have hO4 : Only [mb] W3 (W3.setCell ⟨mb, 17, none⟩ (.int .i64 ((pl : Int) + 1))) := (Only.refl [mb] W3).setIn (by simp) _
  have v0 := (hO4.cell (p := ⟨xb, 0, none⟩) hxl3 (by simpa using Ne.symm hmx)).trans u0
  have v1 := (hO4.cell (p := ⟨xb, 1, none⟩) hxl3 (by simpa using Ne.symm hmx)).trans u1
  have v2 := (hO4.cell (p := ⟨xb, 2, none⟩) hxl3 (by simpa using Ne.symm hmx)).trans u2
  have v3 := (hO4.cell (p := ⟨xb, 3, none⟩) hxl3 (by simpa using Ne.symm hmx)).trans u3
  have v4 := (hO4.cell (p := ⟨xb, 4, none⟩) hxl3 (by simpa using Ne.symm hmx)).trans u4
  have hxl4 : xb < (W3.setCell ⟨mb, 17, none⟩ (.int .i64 ((pl : Int) + 1))).heap.size := Nat.lt_of_lt_of_le hxl3 hO4.size
  have hlm4 : mb < (W3.setCell ⟨mb, 17, none⟩ (.int .i64 ((pl : Int) + 1))).heap.size := Nat.lt_of_lt_of_le hlm3 hO4.size
  clear hO4 u0 u1 u2 u3 u4 u7 u17 f17 hw hxl3 hlm3 HS3
  generalize W3.setCell ⟨mb, 17, none⟩ (.int .i64 ((pl : Int) + 1)) = W4 at *
  have k8 := (unhide HS4).1.m.c8
  have k18 := (unhide HS4).1.m.c18
  try simp only at k18
  go_quiet (fail)
  have HS5 : Hid (SAt (W4.drewN nq) mb e (some ⟨b, off, none⟩) cap p fan ⟨cs, pl + 1, L⟩ (.slice A' L.length c') ∧ Only [mb] w (W4.drewN nq)) := ⟨(unhide HS4).1.only0 ((Only.refl [] _).drewN nq), (unhide HS4).2.drewN nq⟩
  have q1 : (W4.drewN nq).cell? ⟨xb, 1, none⟩ = some (.int .i64 (a : Int)) := v1
  have q2 : (W4.drewN nq).cell? ⟨xb, 2, none⟩ = some (.int .i64 (bb : Int)) := v2
  have q3 : (W4.drewN nq).cell? ⟨xb, 3, none⟩ = some (.int .i64 (c : Int)) := v3
  have q4 : (W4.drewN nq).cell? ⟨xb, 4, none⟩ = some (.int .i64 d) := v4
  have hxl5 : xb < (W4.drewN nq).heap.size := hxl4
  have hlm5 : mb < (W4.drewN nq).heap.size := hlm4
  clear v0 v1 v2 v3 v4 hxl4 hlm4 k8 k18 HS4
  generalize W4.drewN nq = W5 at *
  have qa := (unhide HS5).1.m.cn ha
  have qb := (unhide HS5).1.m.cn hb
  have qc := (unhide HS5).1.m.cn hc
  have q18 := (unhide HS5).1.m.c18
  have f18 := (unhide HS5).1.m.fz 18
  simp only at qa qb qc q18
  obtain ⟨ya, hya⟩ : ∃ y, cs a = y := ⟨_, rfl⟩
  obtain ⟨yb, hyb⟩ : ∃ y, cs bb = y := ⟨_, rfl⟩
  obtain ⟨yc, hyc⟩ : ∃ y, cs c = y := ⟨_, rfl⟩
  rw [hya] at qa
  rw [hyb] at qb
  rw [hyc] at qc
  have HY := hide (And.intro hya (And.intro hyb hyc))
  clear hya hyb hyc
  go_upto_region 16 with fail
  have hS6 : W5.drew.cell? ⟨xb, 1, none⟩ = some (.int .i64 (a : Int)) ∧ W5.drew.cell? ⟨xb, 2, none⟩ = some (.int .i64 (bb : Int)) ∧ W5.drew.cell? ⟨xb, 3, none⟩ = some (.int .i64 (c : Int)) ∧ W5.drew.cell? ⟨xb, 4, none⟩ = some (.int .i64 d) ∧ W5.drew.cell? ⟨mb, 9 + a, none⟩ = some (.int .i64 ya) ∧ W5.drew.cell? ⟨mb, 9 + bb, none⟩ = some (.int .i64 yb) ∧ W5.drew.cell? ⟨mb, 9 + c, none⟩ = some (.int .i64 yc) ∧ W5.drew.cell? ⟨mb, 18, none⟩ = some (.slice A' L.length c') := ⟨q1, q2, q3, q4, qa, qb, qc, q18⟩
  have ha2 : (a : Int) < 8 := by omega
  have ha3 : decide ((a : Int) < 8) = true := decide_eq_true ha2
  have hb2 : (bb : Int) < 8 := by omega
  have hb3 : decide ((bb : Int) < 8) = true := decide_eq_true hb2
  have hc2 : (c : Int) < 8 := by omega
  have hc3 : decide ((c : Int) < 8) = true := decide_eq_true hc2
  obtain ⟨i0, hi, hz0, hz1, hz2⟩ := info_parts info38
  refine wp_region_T (fun w' => w'.cell? ⟨xb, 1, none⟩ = some (.int .i64 (a : Int)) ∧ w'.cell? ⟨xb, 2, none⟩ = some (.int .i64 (bb : Int)) ∧ w'.cell? ⟨xb, 3, none⟩ = some (.int .i64 (c : Int)) ∧ w'.cell? ⟨xb, 4, none⟩ = some (.int .i64 d) ∧ w'.cell? ⟨mb, 9 + a, none⟩ = some (.int .i64 ya) ∧ w'.cell? ⟨mb, 9 + bb, none⟩ = some (.int .i64 yb) ∧ w'.cell? ⟨mb, 9 + c, none⟩ = some (.int .i64 yc) ∧ w'.cell? ⟨mb, 18, none⟩ = some (.slice A' L.length c')) 33 34 rfl (by kernel_rfl) (by kernel_rfl) (fun hN hcl => ?_)
  refine wpAnyT_take (i := 0) (v := ?_) (some 93) (by kernel_rfl) (by kernel_rfl) (by kernel_rfl) (by kernel_rfl) hN (by decide) hcl (fun _ _ _ h => h) (fun oi hoi => ?hy34) hS6 ?rs34
  case hy34 =>
    simp only [List.getElem?_toArray, List.getElem?_cons_succ, List.getElem?_cons_zero, Option.some.injEq] at hoi
    subst hoi
    refine ⟨rfl, Or.inl ⟨by rfl, ?_⟩⟩
    intro w hSw
    try dsimp only at hSw
    go_simp
    try with_reducible rfl
  clear hcl
  intro hcl
  try simp only [Act.put, List.setIfInBounds_toArray, List.set_cons_zero, List.set_cons_succ]
  refine wpAnyT_take (i := 1) (v := ?_) (some 94) (by kernel_rfl) (by kernel_rfl) (by kernel_rfl) (by kernel_rfl) hN (by decide) hcl (fun _ _ _ h => h) (fun oi hoi => ?hy35) hS6 ?rs35
  case hy35 =>
    simp only [List.getElem?_toArray, List.getElem?_cons_succ, List.getElem?_cons_zero, Option.some.injEq] at hoi
    subst hoi
    refine ⟨rfl, Or.inl ⟨by rfl, ?_⟩⟩
    intro w hSw
    try dsimp only at hSw
    go_simp
    try with_reducible rfl
  clear hcl
  intro hcl
  try simp only [Act.put, List.setIfInBounds_toArray, List.set_cons_zero, List.set_cons_succ]
  refine wpAnyT_take (i := 2) (v := ?_) (some 95) (by kernel_rfl) (by kernel_rfl) (by kernel_rfl) (by kernel_rfl) hN (by decide) hcl (fun _ _ _ h => h) (fun oi hoi => ?hy36) hS6 ?rs36
  case hy36 =>
    simp only [List.getElem?_toArray, List.getElem?_cons_succ, List.getElem?_cons_zero, Option.some.injEq] at hoi
    subst hoi
    refine ⟨rfl, Or.inl ⟨by rfl, ?_⟩⟩
    intro w hSw
    try dsimp only at hSw
    go_simp
    try with_reducible rfl
  clear hcl
  intro hcl
  try simp only [Act.put, List.setIfInBounds_toArray, List.set_cons_zero, List.set_cons_succ]
  refine wpAnyT_take (i := 3) (v := ?_) (some 96) (by kernel_rfl) (by kernel_rfl) (by kernel_rfl) (by kernel_rfl) hN (by decide) hcl (fun _ _ _ h => h) (fun oi hoi => ?hy37) hS6 ?rs37
  case hy37 =>
    simp only [List.getElem?_toArray, List.getElem?_cons_succ, List.getElem?_cons_zero, Option.some.injEq] at hoi
    subst hoi
    refine ⟨rfl, Or.inl ⟨by rfl, ?_⟩⟩
    intro w hSw
    try dsimp only at hSw
    go_simp
    try with_reducible rfl
  clear hcl
  intro hcl
  try simp only [Act.put, List.setIfInBounds_toArray, List.set_cons_zero, List.set_cons_succ]
  refine wpAnyT_take (i := 4) (v := ?_) (some 97) (by kernel_rfl) (by kernel_rfl) (by kernel_rfl) (by kernel_rfl) hN (by decide) hcl (fun _ _ _ h => h) (fun oi hoi => ?hy38) hS6 ?rs38
  case hy38 =>
    simp only [List.getElem?_toArray, List.getElem?_cons_succ, List.getElem?_cons_zero, Option.some.injEq] at hoi
    subst hoi
    refine ⟨rfl, Or.inl ⟨by rfl, ?_⟩⟩
    intro w hSw
    try dsimp only at hSw
    go_simp
    try with_reducible rfl
  clear hcl
  intro hcl
  try simp only [Act.put, List.setIfInBounds_toArray, List.set_cons_zero, List.set_cons_succ]
  refine wpAnyT_take (i := 5) (v := ?_) (some 98) (by kernel_rfl) (by kernel_rfl) (by kernel_rfl) (by kernel_rfl) hN (by decide) hcl (fun _ _ _ h => h) (fun oi hoi => ?hy39) hS6 ?rs39
  case hy39 =>
    simp only [List.getElem?_toArray, List.getElem?_cons_succ, List.getElem?_cons_zero, Option.some.injEq] at hoi
    subst hoi
    refine ⟨rfl, Or.inl ⟨by rfl, ?_⟩⟩
    intro w hSw
    try dsimp only at hSw
    go_simp
    try with_reducible rfl
  clear hcl
  intro hcl
  try simp only [Act.put, List.setIfInBounds_toArray, List.set_cons_zero, List.set_cons_succ]
  refine wpAnyT_take (i := 6) (v := ?_) (some 99) (by kernel_rfl) (by kernel_rfl) (by kernel_rfl) (by kernel_rfl) hN (by decide) hcl (fun _ _ _ h => h) (fun oi hoi => ?hy40) hS6 ?rs40
  case hy40 =>
    simp only [List.getElem?_toArray, List.getElem?_cons_succ, List.getElem?_cons_zero, Option.some.injEq] at hoi
    subst hoi
    refine ⟨rfl, Or.inl ⟨by rfl, ?_⟩⟩
    intro w hSw
    try dsimp only at hSw
    go_simp
    try with_reducible rfl
  clear hcl
  intro hcl
  try simp only [Act.put, List.setIfInBounds_toArray, List.set_cons_zero, List.set_cons_succ]
  refine wpAnyT_take (i := 7) (v := ?_) (some 100) (by kernel_rfl) (by kernel_rfl) (by kernel_rfl) (by kernel_rfl) hN (by decide) hcl (fun _ _ _ h => h) (fun oi hoi => ?hy41) hS6 ?rs41
  case hy41 =>
    simp only [List.getElem?_toArray, List.getElem?_cons_succ, List.getElem?_cons_zero, Option.some.injEq] at hoi
    subst hoi
    refine ⟨rfl, Or.inl ⟨by rfl, ?_⟩⟩
    intro w hSw
    try dsimp only at hSw
    go_simp
    try with_reducible rfl
  clear hcl
  intro hcl
  try simp only [Act.put, List.setIfInBounds_toArray, List.set_cons_zero, List.set_cons_succ]
  refine wpAnyT_take (i := 8) (v := ?_) (some 101) (by kernel_rfl) (by kernel_rfl) (by kernel_rfl) (by kernel_rfl) hN (by decide) hcl (fun _ _ _ h => h) (fun oi hoi => ?hy42) hS6 ?rs42
  case hy42 =>
    simp only [List.getElem?_toArray, List.getElem?_cons_succ, List.getElem?_cons_zero, Option.some.injEq] at hoi
    subst hoi
    refine ⟨rfl, Or.inl ⟨by rfl, ?_⟩⟩
    intro w hSw
    try dsimp only at hSw
    go_simp
    try with_reducible rfl
  clear hcl
  intro hcl
  try simp only [Act.put, List.setIfInBounds_toArray, List.set_cons_zero, List.set_cons_succ]
  refine wpAnyT_take (i := 9) (v := ?_) (some 102) (by kernel_rfl) (by kernel_rfl) (by kernel_rfl) (by kernel_rfl) hN (by decide) hcl (fun _ _ _ h => h) (fun oi hoi => ?hy43) hS6 ?rs43
  case hy43 =>
    simp only [List.getElem?_toArray, List.getElem?_cons_succ, List.getElem?_cons_zero, Option.some.injEq] at hoi
    subst hoi
    refine ⟨rfl, Or.inl ⟨by rfl, ?_⟩⟩
    intro w hSw
    try dsimp only at hSw
    go_simp
    try with_reducible rfl
  clear hcl
  intro hcl
  try simp only [Act.put, List.setIfInBounds_toArray, List.set_cons_zero, List.set_cons_succ]
  refine wpAnyT_take (i := 10) (v := ?_) (some 103) (by kernel_rfl) (by kernel_rfl) (by kernel_rfl) (by kernel_rfl) hN (by decide) hcl (fun _ _ _ h => h) (fun oi hoi => ?hy44) hS6 ?rs44
  case hy44 =>
    simp only [List.getElem?_toArray, List.getElem?_cons_succ, List.getElem?_cons_zero, Option.some.injEq] at hoi
    subst hoi
    refine ⟨rfl, Or.inl ⟨by rfl, ?_⟩⟩
    intro w hSw
    try dsimp only at hSw
    go_simp
    try with_reducible rfl
  clear hcl
  intro hcl
  try simp only [Act.put, List.setIfInBounds_toArray, List.set_cons_zero, List.set_cons_succ]
  refine wpAnyT_take (i := 11) (v := ?_) (some 104) (by kernel_rfl) (by kernel_rfl) (by kernel_rfl) (by kernel_rfl) hN (by decide) hcl (fun _ _ _ h => h) (fun oi hoi => ?hy45) hS6 ?rs45
  case hy45 =>
    simp only [List.getElem?_toArray, List.getElem?_cons_succ, List.getElem?_cons_zero, Option.some.injEq] at hoi
    subst hoi
    refine ⟨rfl, Or.inl ⟨by rfl, ?_⟩⟩
    intro w hSw
    try dsimp only at hSw
    go_simp
    try with_reducible rfl
  clear hcl
  intro hcl
  try simp only [Act.put, List.setIfInBounds_toArray, List.set_cons_zero, List.set_cons_succ]
  refine wpAnyT_take (i := 12) (v := ?_) (some 105) (by kernel_rfl) (by kernel_rfl) (by kernel_rfl) (by kernel_rfl) hN (by decide) hcl (fun _ _ _ h => h) (fun oi hoi => ?hy46) hS6 ?rs46
  case hy46 =>
    simp only [List.getElem?_toArray, List.getElem?_cons_succ, List.getElem?_cons_zero, Option.some.injEq] at hoi
    subst hoi
    refine ⟨rfl, Or.inl ⟨by rfl, ?_⟩⟩
    intro w hSw
    try dsimp only at hSw
    go_simp
    try with_reducible rfl
  clear hcl
  intro hcl
  try simp only [Act.put, List.setIfInBounds_toArray, List.set_cons_zero, List.set_cons_succ]
  refine wpAnyT_take (i := 13) (v := ?_) (some 106) (by kernel_rfl) (by kernel_rfl) (by kernel_rfl) (by kernel_rfl) hN (by decide) hcl (fun _ _ _ h => h) (fun oi hoi => ?hy47) hS6 ?rs47
  case hy47 =>
    simp only [List.getElem?_toArray, List.getElem?_cons_succ, List.getElem?_cons_zero, Option.some.injEq] at hoi
    subst hoi
    refine ⟨rfl, Or.inl ⟨by rfl, ?_⟩⟩
    intro w hSw
    try dsimp only at hSw
    go_simp
    try with_reducible rfl
  clear hcl
  intro hcl
  try simp only [Act.put, List.setIfInBounds_toArray, List.set_cons_zero, List.set_cons_succ]
  refine wpAnyT_take (i := 14) (v := ?_) (some 107) (by kernel_rfl) (by kernel_rfl) (by kernel_rfl) (by kernel_rfl) hN (by decide) hcl (fun _ _ _ h => h) (fun oi hoi => ?hy48) hS6 ?rs48
  case hy48 =>
    simp only [List.getElem?_toArray, List.getElem?_cons_succ, List.getElem?_cons_zero, Option.some.injEq] at hoi
    subst hoi
    refine ⟨rfl, Or.inl ⟨by rfl, ?_⟩⟩
    intro w hSw
    try dsimp only at hSw
    go_simp
    try with_reducible rfl
  clear hcl
  intro hcl
  try simp only [Act.put, List.setIfInBounds_toArray, List.set_cons_zero, List.set_cons_succ]
  refine wpAnyT_take (i := 15) (v := ?_) (some 108) (by kernel_rfl) (by kernel_rfl) (by kernel_rfl) (by kernel_rfl) hN (by decide) hcl (fun _ _ _ h => h) (fun oi hoi => ?hy49) hS6 ?rs49
  case hy49 =>
    simp only [List.getElem?_toArray, List.getElem?_cons_succ, List.getElem?_cons_zero, Option.some.injEq] at hoi
    subst hoi
    refine ⟨rfl, Or.inl ⟨by rfl, ?_⟩⟩
    intro w hSw
    try dsimp only at hSw
    go_simp
    try with_reducible rfl
  clear hcl
  intro hcl
  try simp only [Act.put, List.setIfInBounds_toArray, List.set_cons_zero, List.set_cons_succ]
  refine wpAnyT_take (i := 16) (v := ?_) (some 109) (by kernel_rfl) (by kernel_rfl) (by kernel_rfl) (by kernel_rfl) hN (by decide) hcl (fun _ _ _ h => h) (fun oi hoi => ?hy50) hS6 ?rs50
  case hy50 =>
    simp only [List.getElem?_toArray, List.getElem?_cons_succ, List.getElem?_cons_zero, Option.some.injEq] at hoi
    subst hoi
    refine ⟨rfl, Or.inl ⟨by rfl, ?_⟩⟩
    intro w hSw
    try dsimp only at hSw
    go_simp
    try with_reducible rfl
  clear hcl
  intro hcl
  try simp only [Act.put, List.setIfInBounds_toArray, List.set_cons_zero, List.set_cons_succ]
  refine wpAnyT_take (i := 17) (v := ?_) (some 110) (by kernel_rfl) (by kernel_rfl) (by kernel_rfl) (by kernel_rfl) hN (by decide) hcl (fun _ _ _ h => h) (fun oi hoi => ?hy51) hS6 ?rs51
  case hy51 =>
    simp only [List.getElem?_toArray, List.getElem?_cons_succ, List.getElem?_cons_zero, Option.some.injEq] at hoi
    subst hoi
    refine ⟨rfl, Or.inl ⟨by rfl, ?_⟩⟩
    intro w hSw
    try dsimp only at hSw
    go_simp
    try with_reducible rfl
  clear hcl
  intro hcl
  try simp only [Act.put, List.setIfInBounds_toArray, List.set_cons_zero, List.set_cons_succ]
  refine wpAnyT_take (i := 18) (v := ?_) (some 111) (by kernel_rfl) (by kernel_rfl) (by kernel_rfl) (by kernel_rfl) hN (by decide) hcl (fun _ _ _ h => h) (fun oi hoi => ?hy52) hS6 ?rs52
  case hy52 =>
    simp only [List.getElem?_toArray, List.getElem?_cons_succ, List.getElem?_cons_zero, Option.some.injEq] at hoi
    subst hoi
    refine ⟨rfl, Or.inl ⟨by rfl, ?_⟩⟩
    intro w hSw
    try dsimp only at hSw
    go_simp
    try with_reducible rfl
  clear hcl
  intro hcl
  try simp only [Act.put, List.setIfInBounds_toArray, List.set_cons_zero, List.set_cons_succ]
  refine wpAnyT_take (i := 19) (v := ?_) (some 112) (by kernel_rfl) (by kernel_rfl) (by kernel_rfl) (by kernel_rfl) hN (by decide) hcl (fun _ _ _ h => h) (fun oi hoi => ?hy53) hS6 ?rs53
  case hy53 =>
    simp only [List.getElem?_toArray, List.getElem?_cons_succ, List.getElem?_cons_zero, Option.some.injEq] at hoi
    subst hoi
    refine ⟨rfl, Or.inl ⟨by rfl, ?_⟩⟩
    intro w hSw
    try dsimp only at hSw
    go_simp
    try with_reducible rfl
  clear hcl
  intro hcl
  try simp only [Act.put, List.setIfInBounds_toArray, List.set_cons_zero, List.set_cons_succ]
  refine wpAnyT_take (i := 20) (v := ?_) (some 113) (by kernel_rfl) (by kernel_rfl) (by kernel_rfl) (by kernel_rfl) hN (by decide) hcl (fun _ _ _ h => h) (fun oi hoi => ?hy54) hS6 ?rs54
  case hy54 =>
    simp only [List.getElem?_toArray, List.getElem?_cons_succ, List.getElem?_cons_zero, Option.some.injEq] at hoi
    subst hoi
    refine ⟨rfl, Or.inl ⟨by rfl, ?_⟩⟩
    intro w hSw
    try dsimp only at hSw
    go_simp
    try with_reducible rfl
  clear hcl
  intro hcl
  try simp only [Act.put, List.setIfInBounds_toArray, List.set_cons_zero, List.set_cons_succ]
  refine wpAnyT_take (i := 21) (v := ?_) (some 114) (by kernel_rfl) (by kernel_rfl) (by kernel_rfl) (by kernel_rfl) hN (by decide) hcl (fun _ _ _ h => h) (fun oi hoi => ?hy55) hS6 ?rs55
  case hy55 =>
    simp only [List.getElem?_toArray, List.getElem?_cons_succ, List.getElem?_cons_zero, Option.some.injEq] at hoi
    subst hoi
    refine ⟨rfl, Or.inl ⟨by rfl, ?_⟩⟩
    intro w hSw
    try dsimp only at hSw
    go_simp
    try with_reducible rfl
  clear hcl
  intro hcl
  try simp only [Act.put, List.setIfInBounds_toArray, List.set_cons_zero, List.set_cons_succ]
  refine wpAnyT_take (i := 22) (v := ?_) (some 115) (by kernel_rfl) (by kernel_rfl) (by kernel_rfl) (by kernel_rfl) hN (by decide) hcl (fun _ _ _ h => h) (fun oi hoi => ?hy56) hS6 ?rs56
  case hy56 =>
    simp only [List.getElem?_toArray, List.getElem?_cons_succ, List.getElem?_cons_zero, Option.some.injEq] at hoi
    subst hoi
    refine ⟨rfl, Or.inl ⟨by rfl, ?_⟩⟩
    intro w hSw
    try dsimp only at hSw
    go_simp
    try with_reducible rfl
  clear hcl
  intro hcl
  try simp only [Act.put, List.setIfInBounds_toArray, List.set_cons_zero, List.set_cons_succ]
  refine wpAnyT_take (i := 23) (v := ?_) (some 116) (by kernel_rfl) (by kernel_rfl) (by kernel_rfl) (by kernel_rfl) hN (by decide) hcl (fun _ _ _ h => h) (fun oi hoi => ?hy57) hS6 ?rs57
  case hy57 =>
    simp only [List.getElem?_toArray, List.getElem?_cons_succ, List.getElem?_cons_zero, Option.some.injEq] at hoi
    subst hoi
    refine ⟨rfl, Or.inl ⟨by rfl, ?_⟩⟩
    intro w hSw
    try dsimp only at hSw
    go_simp
    try with_reducible rfl
  clear hcl
  intro hcl
  try simp only [Act.put, List.setIfInBounds_toArray, List.set_cons_zero, List.set_cons_succ]
  refine wpAnyT_take (i := 24) (v := ?_) (some 117) (by kernel_rfl) (by kernel_rfl) (by kernel_rfl) (by kernel_rfl) hN (by decide) hcl (fun _ _ _ h => h) (fun oi hoi => ?hy58) hS6 ?rs58
  case hy58 =>
    simp only [List.getElem?_toArray, List.getElem?_cons_succ, List.getElem?_cons_zero, Option.some.injEq] at hoi
    subst hoi
    refine ⟨rfl, Or.inl ⟨by rfl, ?_⟩⟩
    intro w hSw
    try dsimp only at hSw
    go_simp
    try with_reducible rfl
  clear hcl
  intro hcl
  try simp only [Act.put, List.setIfInBounds_toArray, List.set_cons_zero, List.set_cons_succ]
  refine wpAnyT_take (i := 25) (v := ?_) (some 118) (by kernel_rfl) (by kernel_rfl) (by kernel_rfl) (by kernel_rfl) hN (by decide) hcl (fun _ _ _ h => h) (fun oi hoi => ?hy59) hS6 ?rs59
  case hy59 =>
    simp only [List.getElem?_toArray, List.getElem?_cons_succ, List.getElem?_cons_zero, Option.some.injEq] at hoi
    subst hoi
    refine ⟨rfl, Or.inl ⟨by rfl, ?_⟩⟩
    intro w hSw
    try dsimp only at hSw
    go_simp
    try with_reducible rfl
  clear hcl
  intro hcl
  try simp only [Act.put, List.setIfInBounds_toArray, List.set_cons_zero, List.set_cons_succ]
  refine wpAnyT_take (i := 26) (v := ?_) (some 119) (by kernel_rfl) (by kernel_rfl) (by kernel_rfl) (by kernel_rfl) hN (by decide) hcl (fun _ _ _ h => h) (fun oi hoi => ?hy60) hS6 ?rs60
  case hy60 =>
    simp only [List.getElem?_toArray, List.getElem?_cons_succ, List.getElem?_cons_zero, Option.some.injEq] at hoi
    subst hoi
    refine ⟨rfl, Or.inl ⟨by rfl, ?_⟩⟩
    intro w hSw
    try dsimp only at hSw
    go_simp
    try with_reducible rfl
  clear hcl
  intro hcl
  try simp only [Act.put, List.setIfInBounds_toArray, List.set_cons_zero, List.set_cons_succ]
  refine wpAnyT_take (i := 27) (v := ?_) (some 120) (by kernel_rfl) (by kernel_rfl) (by kernel_rfl) (by kernel_rfl) hN (by decide) hcl (fun _ _ _ h => h) (fun oi hoi => ?hy61) hS6 ?rs61
  case hy61 =>
    simp only [List.getElem?_toArray, List.getElem?_cons_succ, List.getElem?_cons_zero, Option.some.injEq] at hoi
    subst hoi
    refine ⟨rfl, Or.inl ⟨by rfl, ?_⟩⟩
    intro w hSw
    try dsimp only at hSw
    go_simp
    try with_reducible rfl
  clear hcl
  intro hcl
  try simp only [Act.put, List.setIfInBounds_toArray, List.set_cons_zero, List.set_cons_succ]
  refine wpAnyT_take (i := 28) (v := ?_) (some 121) (by kernel_rfl) (by kernel_rfl) (by kernel_rfl) (by kernel_rfl) hN (by decide) hcl (fun _ _ _ h => h) (fun oi hoi => ?hy62) hS6 ?rs62
  case hy62 =>
    simp only [List.getElem?_toArray, List.getElem?_cons_succ, List.getElem?_cons_zero, Option.some.injEq] at hoi
    subst hoi
    refine ⟨rfl, Or.inl ⟨by rfl, ?_⟩⟩
    intro w hSw
    try dsimp only at hSw
    go_simp
    try with_reducible rfl
  clear hcl
  intro hcl
  try simp only [Act.put, List.setIfInBounds_toArray, List.set_cons_zero, List.set_cons_succ]
  refine wpAnyT_one (i := 29) (by kernel_rfl) (by kernel_rfl) hcl (fun oi hoi K' hK' => ?_)
  clear hcl
  simp only [List.getElem?_toArray, List.getElem?_cons_succ, List.getElem?_cons_zero, Option.some.injEq] at hoi
  subst hoi
  go_simp
  refine (unhide hK') _ _ (.inr ⟨(World.cell?_alloc_lt _ _ _ hxl5).trans q1, (World.cell?_alloc_lt _ _ _ hxl5).trans q2, (World.cell?_alloc_lt _ _ _ hxl5).trans q3, (World.cell?_alloc_lt _ _ _ hxl5).trans q4, (World.cell?_alloc_lt _ _ _ hlm5).trans qa, (World.cell?_alloc_lt _ _ _ hlm5).trans qb, (World.cell?_alloc_lt _ _ _ hlm5).trans qc, (World.cell?_alloc_lt _ _ _ hlm5).trans q18⟩) (fun hcl => ?_)
  clear hK' K'
  refine wpAnyT_one (i := 30) (by kernel_rfl) (by kernel_rfl) hcl (fun oi hoi K' hK' => ?_)
  clear hcl
  simp only [List.getElem?_toArray, List.getElem?_cons_succ, List.getElem?_cons_zero, Option.some.injEq] at hoi
  subst hoi
  refine step_append_lies _ rfl (.tmp 97) (.tmp 122) 34 rfl (mb + 1) 38 i0 (.agg #[.int .i64 0, .int .i64 0, .int .i64 0, .int .i64 0]) 4 32 und34 hi hz0 hz1 hz2 rfl (by decide) _ _ _ rfl ((((Only.refl [] W5).alloc _).drew).owns (unhide HS5).1.l (by simp)) ⟨W5.heap.size, 0, none⟩ 1 1 (Em.cells ⟨ya, yb, d, yc⟩) rfl rfl (new_cells_drew W5 _ 38 _ rfl) (em_one _) (by omega) (by have := unhide HL; unfold maxLen; show L.length + 1 ≤ 9223372036854775807; omega) (by have := unhide HL; show (L.length + 1) * 32 ≤ 140737488355328; omega) (by simp; omega) _ rfl ?_
  intro g9' cap9 w6 hown hgrow hat hlt9
  have HP := hide ((unhide HS5).1.push (((Only.refl [] W5).alloc _).drew) ⟨ya, yb, d, yc⟩ hown hgrow)
  clear hown hgrow hat hlt9
  obtain ⟨ob, hO6, hob⟩ := (unhide HP).1
  have hxo : xb ∉ ob := fun hk => by have := (unhide HOX) _ (hob _ hk); omega
  have hmo : mb ∉ ob := fun hk => by have := own_ge (unhide HS5).1.l _ (hob _ hk); omega
  have r1 := (hO6.cell (p := ⟨xb, 1, none⟩) hxl5 hxo).trans q1
  have r2 := (hO6.cell (p := ⟨xb, 2, none⟩) hxl5 hxo).trans q2
  have r3 := (hO6.cell (p := ⟨xb, 3, none⟩) hxl5 hxo).trans q3
  have r4 := (hO6.cell (p := ⟨xb, 4, none⟩) hxl5 hxo).trans q4
  have ra := (hO6.cell (p := ⟨mb, 9 + a, none⟩) hlm5 hmo).trans qa
  have rb := (hO6.cell (p := ⟨mb, 9 + bb, none⟩) hlm5 hmo).trans qb
  have rc := (hO6.cell (p := ⟨mb, 9 + c, none⟩) hlm5 hmo).trans qc
  have r18 := (hO6.cell (p := ⟨mb, 18, none⟩) hlm5 hmo).trans q18
  have g18 := (hO6.frozen (p := ⟨mb, 18, none⟩) hlm5 hmo).trans f18
  have hlm6 : mb < w6.heap.size := Nat.lt_of_lt_of_le hlm5 hO6.size
  have HB6 : Hid (Below mb w w6) := by
    have h1 : Only (mb :: ob) w w6 := ((unhide HS5).2.mono (by simp)).trans (hO6.mono (by intro i hi; simp [hi]))
    refine Only.to_below (show Below mb w w from ⟨rfl, rfl, rfl, Nat.le_refl _, fun _ _ => rfl⟩) h1 (fun i hi => ?_) (Nat.le_of_lt (unhide HLM))
    simp only [List.mem_cons] at hi
    rcases hi with rfl | hi
    · exact Nat.le_refl _
    · have := own_ge (unhide HS5).1.l _ (hob _ hi); omega
  have hS7 : w6.cell? ⟨xb, 1, none⟩ = some (.int .i64 (a : Int)) ∧ w6.cell? ⟨xb, 2, none⟩ = some (.int .i64 (bb : Int)) ∧ w6.cell? ⟨xb, 3, none⟩ = some (.int .i64 (c : Int)) ∧ w6.cell? ⟨xb, 4, none⟩ = some (.int .i64 d) ∧ w6.cell? ⟨mb, 9 + a, none⟩ = some (.int .i64 ya) ∧ w6.cell? ⟨mb, 9 + bb, none⟩ = some (.int .i64 yb) ∧ w6.cell? ⟨mb, 9 + c, none⟩ = some (.int .i64 yc) ∧ w6.cell? ⟨mb, 18, none⟩ = some (.slice A' L.length c') := ⟨r1, r2, r3, r4, ra, rb, rc, r18⟩
  clear hO6 hob hxo hmo hS6 q1 q2 q3 q4 qa qb qc q18 f18 hxl5 hlm5
  refine (unhide hK') _ _ (.inr hS7) (fun hcl => ?_)
  clear hK' K'
  try simp only [Act.put, List.setIfInBounds_toArray, List.set_cons_zero, List.set_cons_succ]
  refine wpAnyT_take (i := 31) (v := ?_) (some 124) (by kernel_rfl) (by kernel_rfl) (by kernel_rfl) (by kernel_rfl) hN (by decide) hcl (fun _ _ _ h => h) (fun oi hoi => ?hy63) hS7 ?rs63
  case hy63 =>
    simp only [List.getElem?_toArray, List.getElem?_cons_succ, List.getElem?_cons_zero, Option.some.injEq] at hoi
    subst hoi
    refine ⟨rfl, Or.inl ⟨by rfl, ?_⟩⟩
    intro w hSw
    try dsimp only at hSw
    go_simp
    try with_reducible rfl
  clear hcl
  intro hcl
  try simp only [Act.put, List.setIfInBounds_toArray, List.set_cons_zero, List.set_cons_succ]
  refine wpAnyT_take (i := 32) (v := ?_) (some 125) (by kernel_rfl) (by kernel_rfl) (by kernel_rfl) (by kernel_rfl) hN (by decide) hcl (fun _ _ _ h => h) (fun oi hoi => ?hy64) hS7 ?rs64
  case hy64 =>
    simp only [List.getElem?_toArray, List.getElem?_cons_succ, List.getElem?_cons_zero, Option.some.injEq] at hoi
    subst hoi
    refine ⟨rfl, Or.inl ⟨by rfl, ?_⟩⟩
    intro w hSw
    try dsimp only at hSw
    go_simp
    try with_reducible rfl
  clear hcl
  intro hcl
  try simp only [Act.put, List.setIfInBounds_toArray, List.set_cons_zero, List.set_cons_succ]
  refine wpAnyT_one (i := 33) (by kernel_rfl) (by kernel_rfl) hcl (fun oi hoi K' hK' => ?_)
  clear hcl
  simp only [List.getElem?_toArray, List.getElem?_cons_succ, List.getElem?_cons_zero, Option.some.injEq] at hoi
  subst hoi
  go_simp
  refine (unhide hK') _ _ (.inl rfl) (fun hcl => ?_)
  clear hK' K'
  refine wpAnyT_done (by kernel_rfl) ?_ _
  clear hcl hN r1 r2 r3 r4 ra rb rc r18 g18 hS7
  go_wp2_with fail
  go_ret
  refine ⟨rfl, ⟨.slice (some ⟨g9', 0, none⟩) (L.length + 1) cap9, ?_⟩, ?_⟩
  · rw [unhide HF]
    try simp only
    rw [(unhide HY).1, (unhide HY).2.1, (unhide HY).2.2]
    exact (unhide HP).2
  · exact (unhide HB6).trans (Only.to_below (show Below mb w6 w6 from ⟨rfl, rfl, rfl, Nat.le_refl _, fun _ _ => rfl⟩) ((Only.refl [mb] w6).setIn (by simp) _) (by simp) (Nat.le_of_lt hlm6))
end
end Go.Proofs.YtipllcepoijbiaaDoor
