/-
  The statements' world: a pick.
-/
import Derived.Test.YtdommbaljchofaaXF
namespace Go.Proofs.Ytdommbaljchofaa
open Go.RowKit Go.Deep
set_option linter.unusedVariables false
set_option linter.unusedSimpArgs false
def pickVal (dov a b : Int) (A : Option Addr) (n c : Nat) : Value := .agg #[.int .i64 dov, .int .i64 a, .int .i64 b, .slice A n c]
section
variable {W w : World} {xb : Nat} {x : XS} {R : World → Prop}
set_option maxRecDepth 100000 in
set_option maxHeartbeats 4000000 in
theorem step_begin {a b : Int} {A : Option Addr} {n c : Nat} (h : XAt W w xb x) (hc : ∀ w1, XAt W w1 xb x → Calls Try.prog 25 #[.pointer (some ⟨xb, 0, none⟩)] w1 fun e w' => e = .returned (.tuple #[]) ∧ R w') :
    Calls Try.prog 20 #[.pointer (some ⟨xb, 0, none⟩), pickVal 1 a b A n c] w fun e w' => e = .returned (.tuple #[]) ∧ R w' := by
  have c0 := h.c0
  have hlt := h.lt
  have H := hide h
  have HC := hide hc
  unfold pickVal
  clear h hc
  go_enter Try.func20, Try.ntmps20
  go_wp2_with fail
  refine Calls.mono ((unhide HC) _ ((unhide H).quiet ((Only.refl [] w).alloc _))) ?_
  rintro e w' ⟨rfl, hR⟩
  have HR := hide hR
  clear hR
  go_wp2_with fail
  first | go_end0 | refine bodyPost_ret (results_none rfl _ _ _) rfl ?_
  exact ⟨rfl, unhide HR⟩
set_option maxRecDepth 100000 in
set_option maxHeartbeats 4000000 in
theorem step_comes {dov a b : Int} {A : Option Addr} {n c : Nat} (h : XAt W w xb x) (h0 : dov ≠ 0) (h1 : dov ≠ 1) (hc : ∀ w1, XAt W w1 xb x → Calls Try.prog 23 #[.pointer (some ⟨xb, 0, none⟩), .int .i64 a] w1 fun e w' => e = .returned (.tuple #[]) ∧ R w') :
    Calls Try.prog 20 #[.pointer (some ⟨xb, 0, none⟩), pickVal dov a b A n c] w fun e w' => e = .returned (.tuple #[]) ∧ R w' := by
  have c0 := h.c0
  have hlt := h.lt
  have H := hide h
  have HC := hide hc
  have e0 : (dov == 0) = false := by simpa using h0
  have e1 : (dov == 1) = false := by simpa using h1
  unfold pickVal
  clear h hc h0 h1
  go_enter Try.func20, Try.ntmps20
  go_wp2_with fail
  refine Calls.mono ((unhide HC) _ ((unhide H).quiet ((Only.refl [] w).alloc _))) ?_
  rintro e w' ⟨rfl, hR⟩
  have HR := hide hR
  clear hR
  go_wp2_with fail
  first | go_end0 | refine bodyPost_ret (results_none rfl _ _ _) rfl ?_
  exact ⟨rfl, unhide HR⟩
set_option maxRecDepth 100000 in
set_option maxHeartbeats 4000000 in
theorem step_work {a b : Int} {A : Option Addr} {n c : Nat} (h : XAt W w xb x) (hK0 : 0 < x.K.length) (hK8 : x.K.length ≤ 8) (hc : ∀ w1 i, XAt W w1 xb x → i < x.K.length → Calls Try.prog 41 #[.pointer (some ⟨xb, 0, none⟩), .int .i64 (i : Nat), .int .i64 b, .slice A n c] w1 fun e w' => e = .returned (.tuple #[]) ∧ R w') :
    Calls Try.prog 20 #[.pointer (some ⟨xb, 0, none⟩), pickVal 0 a b A n c] w fun e w' => e = .returned (.tuple #[]) ∧ R w' := by
  have c0 := h.c0
  have hlt := h.lt
  have H := hide h
  have HC := hide hc
  obtain ⟨nK, hnK⟩ : ∃ nK, x.K.length = nK := ⟨_, rfl⟩
  rw [hnK] at c0 hK0 hK8
  obtain ⟨j, hj, ej⟩ := modIdx hK0 (by omega) a
  have HN := hide hnK
  have g3 : (nK == 0) = false := beq_false_of_ne (by omega)
  have g4 : ((nK : Int) == 0) = false := beq_false_of_ne (by omega)
  have g5 : ¬ (nK = 0) := by omega
  unfold pickVal
  clear h hc hnK
  go_enter Try.func20, Try.ntmps20
  go_upto_region 5 with fail
  have ej2 : (IntKind.i64.wrap (a.tmod (nK : Int) + (nK : Int))).tmod (nK : Int) = (j : Int) := by rw [Go.IntWalk.i64_left]; exact ej
  obtain ⟨w1, hw1⟩ : ∃ w1, w1 = (w.alloc (.cells #[.int .i64 0, .int .i64 a, .int .i64 b, .slice A n c] 49)) := ⟨_, rfl⟩
  have hq := fun j u hj => new_cells w #[.int .i64 0, .int .i64 a, .int .i64 b, .slice A n c] 49 _ rfl j u hj
  rw [← hw1] at hq ⊢
  have hkb : w.heap.size < w1.heap.size := by rw [hw1]; simp
  have HX1 : Hid (XAt W w1 xb x) := by
    show XAt W w1 xb x
    rw [hw1]
    exact (unhide H).quiet ((Only.refl [] w).alloc _)
  have q1 : w1.cell? ⟨w.heap.size, 1, none⟩ = some (.int .i64 a) := hq 1 _ rfl
  have q2 : w1.cell? ⟨w.heap.size, 2, none⟩ = some (.int .i64 b) := hq 2 _ rfl
  have q3 : w1.cell? ⟨w.heap.size, 3, none⟩ = some (.slice A n c) := hq 3 _ rfl
  clear hw1 hq c0 hlt
  generalize w.heap.size = kb at *
  refine wp_region_T (fun w' => w'.cell? ⟨kb, 1, none⟩ = some (.int .i64 a) ∧ w'.cell? ⟨kb, 2, none⟩ = some (.int .i64 b) ∧ w'.cell? ⟨kb, 3, none⟩ = some (.slice A n c)) 13 14 rfl (by kernel_rfl) (by kernel_rfl) (fun hN hcl => ?_)
  have hS0 : w1.drew.cell? ⟨kb, 1, none⟩ = some (.int .i64 a) ∧ w1.drew.cell? ⟨kb, 2, none⟩ = some (.int .i64 b) ∧ w1.drew.cell? ⟨kb, 3, none⟩ = some (.slice A n c) := ⟨q1, q2, q3⟩
  refine wpAnyT_take (i := 0) (v := ?_) (some 18) (by kernel_rfl) (by kernel_rfl) (by kernel_rfl) (by kernel_rfl) hN (by decide) hcl (fun _ _ _ h => h) (fun oi hoi => ?hy701) hS0 ?rs701
  case hy701 =>
    simp only [List.getElem?_toArray, List.getElem?_cons_succ, List.getElem?_cons_zero, Option.some.injEq] at hoi
    subst hoi
    refine ⟨rfl, Or.inl ⟨by rfl, ?_⟩⟩
    intro w hSw
    try dsimp only at hSw
    go_simp
    try with_reducible rfl
  clear hcl
  intro hcl
  try simp only [Act.put, List.setIfInBounds_toArray, List.set_cons_zero, List.set_cons_succ]
  refine wpAnyT_take (i := 1) (v := ?_) (some 19) (by kernel_rfl) (by kernel_rfl) (by kernel_rfl) (by kernel_rfl) hN (by decide) hcl (fun _ _ _ h => h) (fun oi hoi => ?hy702) hS0 ?rs702
  case hy702 =>
    simp only [List.getElem?_toArray, List.getElem?_cons_succ, List.getElem?_cons_zero, Option.some.injEq] at hoi
    subst hoi
    refine ⟨rfl, Or.inl ⟨by rfl, ?_⟩⟩
    intro w hSw
    try dsimp only at hSw
    go_simp
    try with_reducible rfl
  clear hcl
  intro hcl
  try simp only [Act.put, List.setIfInBounds_toArray, List.set_cons_zero, List.set_cons_succ]
  refine wpAnyT_take (i := 2) (v := ?_) (some 20) (by kernel_rfl) (by kernel_rfl) (by kernel_rfl) (by kernel_rfl) hN (by decide) hcl (fun _ _ _ h => h) (fun oi hoi => ?hy703) hS0 ?rs703
  case hy703 =>
    simp only [List.getElem?_toArray, List.getElem?_cons_succ, List.getElem?_cons_zero, Option.some.injEq] at hoi
    subst hoi
    refine ⟨rfl, Or.inl ⟨by rfl, ?_⟩⟩
    intro w hSw
    try dsimp only at hSw
    go_simp
    try with_reducible rfl
  clear hcl
  intro hcl
  try simp only [Act.put, List.setIfInBounds_toArray, List.set_cons_zero, List.set_cons_succ]
  refine wpAnyT_take (i := 3) (v := ?_) (some 21) (by kernel_rfl) (by kernel_rfl) (by kernel_rfl) (by kernel_rfl) hN (by decide) hcl (fun _ _ _ h => h) (fun oi hoi => ?hy704) hS0 ?rs704
  case hy704 =>
    simp only [List.getElem?_toArray, List.getElem?_cons_succ, List.getElem?_cons_zero, Option.some.injEq] at hoi
    subst hoi
    refine ⟨rfl, Or.inl ⟨by rfl, ?_⟩⟩
    intro w hSw
    try dsimp only at hSw
    go_simp
    try with_reducible rfl
  clear hcl
  intro hcl
  try simp only [Act.put, List.setIfInBounds_toArray, List.set_cons_zero, List.set_cons_succ]
  refine wpAnyT_take (i := 4) (v := ?_) (some 22) (by kernel_rfl) (by kernel_rfl) (by kernel_rfl) (by kernel_rfl) hN (by decide) hcl (fun _ _ _ h => h) (fun oi hoi => ?hy705) hS0 ?rs705
  case hy705 =>
    simp only [List.getElem?_toArray, List.getElem?_cons_succ, List.getElem?_cons_zero, Option.some.injEq] at hoi
    subst hoi
    refine ⟨rfl, Or.inl ⟨by rfl, ?_⟩⟩
    intro w hSw
    try dsimp only at hSw
    go_simp
    try with_reducible rfl
  clear hcl
  intro hcl
  try simp only [Act.put, List.setIfInBounds_toArray, List.set_cons_zero, List.set_cons_succ]
  refine wpAnyT_take (i := 5) (v := ?_) (some 23) (by kernel_rfl) (by kernel_rfl) (by kernel_rfl) (by kernel_rfl) hN (by decide) hcl (fun _ _ _ h => h) (fun oi hoi => ?hy706) hS0 ?rs706
  case hy706 =>
    simp only [List.getElem?_toArray, List.getElem?_cons_succ, List.getElem?_cons_zero, Option.some.injEq] at hoi
    subst hoi
    refine ⟨rfl, Or.inl ⟨by rfl, ?_⟩⟩
    intro w hSw
    try dsimp only at hSw
    go_simp
    try with_reducible rfl
  clear hcl
  intro hcl
  try simp only [Act.put, List.setIfInBounds_toArray, List.set_cons_zero, List.set_cons_succ]
  refine wpAnyT_take (i := 6) (v := ?_) (some 24) (by kernel_rfl) (by kernel_rfl) (by kernel_rfl) (by kernel_rfl) hN (by decide) hcl (fun _ _ _ h => h) (fun oi hoi => ?hy707) hS0 ?rs707
  case hy707 =>
    simp only [List.getElem?_toArray, List.getElem?_cons_succ, List.getElem?_cons_zero, Option.some.injEq] at hoi
    subst hoi
    refine ⟨rfl, Or.inl ⟨by rfl, ?_⟩⟩
    intro w hSw
    try dsimp only at hSw
    go_simp
    try with_reducible rfl
  clear hcl
  intro hcl
  try simp only [Act.put, List.setIfInBounds_toArray, List.set_cons_zero, List.set_cons_succ]
  refine wpAnyT_take (i := 7) (v := ?_) (some 25) (by kernel_rfl) (by kernel_rfl) (by kernel_rfl) (by kernel_rfl) hN (by decide) hcl (fun _ _ _ h => h) (fun oi hoi => ?hy708) hS0 ?rs708
  case hy708 =>
    simp only [List.getElem?_toArray, List.getElem?_cons_succ, List.getElem?_cons_zero, Option.some.injEq] at hoi
    subst hoi
    refine ⟨rfl, Or.inl ⟨by rfl, ?_⟩⟩
    intro w hSw
    try dsimp only at hSw
    go_simp
    try with_reducible rfl
  clear hcl
  intro hcl
  try simp only [Act.put, List.setIfInBounds_toArray, List.set_cons_zero, List.set_cons_succ]
  refine wpAnyT_take (i := 8) (v := ?_) (some 26) (by kernel_rfl) (by kernel_rfl) (by kernel_rfl) (by kernel_rfl) hN (by decide) hcl (fun _ _ _ h => h) (fun oi hoi => ?hy709) hS0 ?rs709
  case hy709 =>
    simp only [List.getElem?_toArray, List.getElem?_cons_succ, List.getElem?_cons_zero, Option.some.injEq] at hoi
    subst hoi
    refine ⟨rfl, Or.inl ⟨by rfl, ?_⟩⟩
    intro w hSw
    try dsimp only at hSw
    go_simp
    try with_reducible rfl
  clear hcl
  intro hcl
  try simp only [Act.put, List.setIfInBounds_toArray, List.set_cons_zero, List.set_cons_succ]
  refine wpAnyT_take (i := 9) (v := ?_) (some 27) (by kernel_rfl) (by kernel_rfl) (by kernel_rfl) (by kernel_rfl) hN (by decide) hcl (fun _ _ _ h => h) (fun oi hoi => ?hy710) hS0 ?rs710
  case hy710 =>
    simp only [List.getElem?_toArray, List.getElem?_cons_succ, List.getElem?_cons_zero, Option.some.injEq] at hoi
    subst hoi
    refine ⟨rfl, Or.inl ⟨by rfl, ?_⟩⟩
    intro w hSw
    try dsimp only at hSw
    go_simp
    try with_reducible rfl
  clear hcl
  intro hcl
  try simp only [Act.put, List.setIfInBounds_toArray, List.set_cons_zero, List.set_cons_succ]
  refine wpAnyT_take (i := 10) (v := ?_) (some 28) (by kernel_rfl) (by kernel_rfl) (by kernel_rfl) (by kernel_rfl) hN (by decide) hcl (fun _ _ _ h => h) (fun oi hoi => ?hy711) hS0 ?rs711
  case hy711 =>
    simp only [List.getElem?_toArray, List.getElem?_cons_succ, List.getElem?_cons_zero, Option.some.injEq] at hoi
    subst hoi
    refine ⟨rfl, Or.inl ⟨by rfl, ?_⟩⟩
    intro w hSw
    try dsimp only at hSw
    go_simp
    try with_reducible rfl
  clear hcl
  intro hcl
  try simp only [Act.put, List.setIfInBounds_toArray, List.set_cons_zero, List.set_cons_succ]
  refine wpAnyT_take (i := 11) (v := ?_) (some 29) (by kernel_rfl) (by kernel_rfl) (by kernel_rfl) (by kernel_rfl) hN (by decide) hcl (fun _ _ _ h => h) (fun oi hoi => ?hy712) hS0 ?rs712
  case hy712 =>
    simp only [List.getElem?_toArray, List.getElem?_cons_succ, List.getElem?_cons_zero, Option.some.injEq] at hoi
    subst hoi
    refine ⟨rfl, Or.inl ⟨by rfl, ?_⟩⟩
    intro w hSw
    try dsimp only at hSw
    go_simp
    try with_reducible rfl
  clear hcl
  intro hcl
  try simp only [Act.put, List.setIfInBounds_toArray, List.set_cons_zero, List.set_cons_succ]
  refine wpAnyT_take (i := 12) (v := ?_) (some 30) (by kernel_rfl) (by kernel_rfl) (by kernel_rfl) (by kernel_rfl) hN (by decide) hcl (fun _ _ _ h => h) (fun oi hoi => ?hy713) hS0 ?rs713
  case hy713 =>
    simp only [List.getElem?_toArray, List.getElem?_cons_succ, List.getElem?_cons_zero, Option.some.injEq] at hoi
    subst hoi
    refine ⟨rfl, Or.inl ⟨by rfl, ?_⟩⟩
    intro w hSw
    try dsimp only at hSw
    go_simp
    try with_reducible rfl
  clear hcl
  intro hcl
  try simp only [Act.put, List.setIfInBounds_toArray, List.set_cons_zero, List.set_cons_succ]
  refine wpAnyT_one (i := 13) (by kernel_rfl) (by kernel_rfl) hcl (fun oi hoi K' hK' => ?_)
  clear hcl
  simp only [List.getElem?_toArray, List.getElem?_cons_succ, List.getElem?_cons_zero, Option.some.injEq] at hoi
  subst hoi
  go_simp
  refine Calls.mono ((unhide HC) _ j ((unhide HX1).quiet ((Only.refl [] w1).drew)) (by rw [unhide HN]; exact hj)) ?_
  rintro e w' ⟨rfl, hR⟩
  have HR := hide hR
  clear hR hS0
  refine (unhide hK') _ _ (.inl rfl) (fun hcl => ?_)
  refine wpAnyT_done (by kernel_rfl) ?_ _
  clear hK' K' hcl hN
  go_wp2_with fail
  first | go_end0 | refine bodyPost_ret (results_none rfl _ _ _) rfl ?_
  exact ⟨rfl, unhide HR⟩
end
end Go.Proofs.Ytdommbaljchofaa
