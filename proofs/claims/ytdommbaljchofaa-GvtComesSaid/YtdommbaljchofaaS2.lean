/-
  A worker's call, of the given worker and of the reference's: Start; and all three.
-/
import Derived.Test.YtdommbaljchofaaS
namespace Go.Proofs.Ytdommbaljchofaa
open Go.RowKit Go.Deep
set_option linter.unusedVariables false

theorem IntsAt.only' {w w' : World} {A : Option Addr} {L : List Int} {s : List Nat} (h : IntsAt w A L) (k : Only s w w') (hs : L ≠ [] → ∀ a, A = some a → a.block ∉ s) : IntsAt w' A L := by
  by_cases e : L = []
  · subst e
    intro i hi
    exact absurd hi (by simp)
  · exact h.only k (hs e)
section
variable {w : World} {B wb mb n rb : Nat} {A1 A2 A : Option Addr} {c1 c2 c : Nat} {s t : WS} {o : OpV}
set_option maxHeartbeats 4000000 in
set_option maxRecDepth 100000 in
theorem does_start {d : Nat} (hw : WAt w wb mb n s.rd s.lo s.M) (hr : RAt w B rb A1 A2 c1 c2 t.rd t.lo t.M) (gs : s.Good 1000) (gt : t.Good 1000) (hd1 : wb ∉ fp rb A1 A2 t.M.length c1 c2) (hd2 : mb ∉ fp rb A1 A2 t.M.length c1 c2) (hI : IntsAt w A o.l) (hl : o.l.length ≤ 1000) (hA : o.l ≠ [] → ∀ a, A = some a → a.block ∉ [wb, mb]) (h0 : o.ask ≠ 0) (h1 : o.ask ≠ 1) :
    Calls Try.prog 12 #[.pointer (some ⟨wb, 0, none⟩), .pointer (some ⟨rb, 0, none⟩), opVal o A d] w fun e w' => ∃ b : Bool, e = .returned (.bool b) ∧ (s = t → b = true) ∧
      WAt w' wb mb n (s.step o).rd (s.step o).lo (s.step o).M ∧ ∃ A1' A2' c1' c2', RAt w' B rb A1' A2' c1' c2' (t.step o).rd (t.step o).lo (t.step o).M ∧ Only (wb :: mb :: fp rb A1 A2 t.M.length c1 c2) w w' := by
  obtain ⟨ask, oa, obb, oc, ol⟩ := o
  simp only at h0 h1 hI hl hA
  have es : s.step ⟨ask, oa, obb, oc, ol⟩ = ⟨startRd s.rd oa ol, startLo s.rd s.lo oa ol, s.M⟩ := by simp only [WS.step]; rw [if_neg h0, if_neg h1]
  have et : t.step ⟨ask, oa, obb, oc, ol⟩ = ⟨startRd t.rd oa ol, startLo t.rd t.lo oa ol, t.M⟩ := by simp only [WS.step]; rw [if_neg h0, if_neg h1]
  rw [es, et]
  unfold opVal
  simp only
  clear es et
  have e0 : (ask == 0) = false := by simpa using h0
  have e1 : (ask == 1) = false := by simpa using h1
  have HW := hide hw
  have HR := hide hr
  have HD1 := hide hd1
  have HD2 := hide hd2
  have HG := hide gt
  have HGS := hide gs
  have HI := hide hI
  have HA := hide hA
  clear hw hr hd1 hd2 gt gs h0 h1 hI hA
  go_enter Try.func12, Try.ntmps12
  go_wp2_with fail
  obtain ⟨x, hx⟩ : ∃ x, startCode s.rd oa ol = x := ⟨_, rfl⟩
  obtain ⟨y, hy⟩ : ∃ y, startCode t.rd oa ol = y := ⟨_, rfl⟩
  obtain ⟨x2, hx2⟩ : ∃ x2, startRes s.M s.rd s.lo oa ol = x2 := ⟨_, rfl⟩
  obtain ⟨y2, hy2⟩ : ∃ y2, startRes t.M t.rd t.lo oa ol = y2 := ⟨_, rfl⟩
  have HX : Hid (s = t → x = y ∧ x2 = y2) := fun e => by rw [← hx, ← hy, ← hx2, ← hy2, e]; exact ⟨rfl, rfl⟩
  obtain ⟨w1, hw1⟩ : ∃ w1, w1 = (w.alloc (.cells #[.int .i64 ask, .int .i64 oa, .int .i64 obb, .int .i64 oc, .slice A ol.length d] 33)) := ⟨_, rfl⟩
  have hq := fun j u hj => new_cells w #[.int .i64 ask, .int .i64 oa, .int .i64 obb, .int .i64 oc, .slice A ol.length d] 33 _ rfl j u hj
  rw [← hw1] at hq ⊢
  have hO1 : Only [] w w1 := by rw [hw1]; exact (Only.refl _ _).alloc _
  have hkb : w.heap.size < w1.heap.size := by rw [hw1]; simp
  have q1 : w1.cell? ⟨w.heap.size, 1, none⟩ = some (.int .i64 oa) := hq 1 _ rfl
  have q4 : w1.cell? ⟨w.heap.size, 4, none⟩ = some (.slice A ol.length d) := hq 4 _ rfl
  have HW1 : Hid (WAt w1 wb mb n s.rd s.lo s.M) := (unhide HW).only0 hO1
  have HR1 : Hid (RAt w1 B rb A1 A2 c1 c2 t.rd t.lo t.M) := (unhide HR).only0 hO1
  have HI1 : Hid (IntsAt w1 A ol) := (unhide HI).only0 hO1
  have HN1 : Hid (w.heap.size ∉ [wb, mb]) := by
    show w.heap.size ∉ [wb, mb]
    have := (unhide HW).lt
    have := (unhide HW).lt2
    simp; omega
  have HO1 := hide hO1
  have HC1 : Hid (Calls Try.prog 17 #[.pointer (some ⟨wb, 0, none⟩), .int .i64 oa, .slice A ol.length d] w1 fun e w' => e = .returned (.tuple #[.int .i64 x2, .int .i64 x]) ∧ WAt w' wb mb n (startRd s.rd oa ol) (startLo s.rd s.lo oa ol) s.M ∧ Only [wb, mb] w1 w') := by
    have h' := start_any (c := d) (round := oa) (unhide HW1) (unhide HGS).r0 (by have := (unhide HGS).r1; omega) (by omega) (unhide HI1)
    rw [hx, hx2] at h'
    exact h'
  have HC2 : Hid (∀ w2 : World, RAt w2 B rb A1 A2 c1 c2 t.rd t.lo t.M → IntsAt w2 A ol → Calls Try.prog 36 #[.pointer (some ⟨rb, 0, none⟩), .int .i64 oa, .slice A ol.length d] w2 fun e w' => e = .returned (.tuple #[.int .i64 y2, .int .i64 y]) ∧ RAt w' B rb A1 A2 c1 c2 (startRd t.rd oa ol) (startLo t.rd t.lo oa ol) t.M ∧ Only [rb] w2 w') := by
    intro w2 h2 hi
    have h' := rstart_any (c := d) (round := oa) h2 (unhide HG).r0 (by have := (unhide HG).r1; omega) (unhide HG).m (by omega) hi
    rw [hy, hy2] at h'
    exact h'
  clear hx hy hx2 hy2 hw1 hq hO1
  generalize w.heap.size = kb at *
  go_wp2_with fail
  refine Calls.mono (unhide HC1) ?_
  rintro e w2 ⟨rfl, hW2, hO2⟩
  have r1 : w2.cell? ⟨kb, 1, none⟩ = some (.int .i64 oa) := (hO2.cell (p := ⟨kb, 1, none⟩) hkb (unhide HN1)).trans q1
  have r4 : w2.cell? ⟨kb, 4, none⟩ = some (.slice A ol.length d) := (hO2.cell (p := ⟨kb, 4, none⟩) hkb (unhide HN1)).trans q4
  have HR2 : Hid (RAt w2 B rb A1 A2 c1 c2 t.rd t.lo t.M) := (unhide HR1).only hO2 (off2 (unhide HD1) (unhide HD2))
  have HI2 : Hid (IntsAt w2 A ol) := (unhide HI1).only' hO2 (unhide HA)
  have HW2 := hide hW2
  have HO2 := hide hO2
  clear hW2 hO2 q1 q4
  go_wp2_with fail
  refine Calls.mono (unhide HC2 _ (unhide HR2) (unhide HI2)) ?_
  rintro e w3 ⟨rfl, hR3, hO3⟩
  have HW3 : Hid (WAt w3 wb mb n (startRd s.rd oa ol) (startLo s.rd s.lo oa ol) s.M) := (unhide HW2).only hO3 (by have h := unhide HD1; simp [fp] at h; simp [h.1]) (by have h := unhide HD2; simp [fp] at h; simp [h.1])
  have HR3 := hide hR3
  have HO3 := hide hO3
  clear hR3 hO3
  have fin : ∀ b : Bool, (s = t → b = true) → ∃ b' : Bool, (Ending.returned (Value.bool b)) = .returned (.bool b') ∧ (s = t → b' = true) ∧
      WAt w3 wb mb n (startRd s.rd oa ol) (startLo s.rd s.lo oa ol) s.M ∧ ∃ A1' A2' c1' c2', RAt w3 B rb A1' A2' c1' c2' (startRd t.rd oa ol) (startLo t.rd t.lo oa ol) t.M ∧ Only (wb :: mb :: fp rb A1 A2 t.M.length c1 c2) w w3 := fun b hb =>
    ⟨b, rfl, hb, unhide HW3, A1, A2, c1, c2, unhide HR3, (((unhide HO1).mono (by simp)).trans ((unhide HO2).mono (by intro i hi; simp at hi; simp; omega))).trans ((unhide HO3).mono (by intro i hi; simp at hi; simp [fp, hi]))⟩
  have FIN := hide fin
  clear fin
  by_cases hxy : x2 = y2
  · have g : (x2 == y2) = true := by simpa using hxy
    go_wp2_with fail
    go_ret
    exact (unhide FIN) _ (fun e => by rw [(unhide HX e).1]; simp)
  · have g : (x2 == y2) = false := by simpa using hxy
    go_wp2_with fail
    go_ret
    exact (unhide FIN) _ (fun e => absurd (unhide HX e).2 hxy)

/-- A worker's call: the two answer alike where they stand alike. -/
theorem does_any {d : Nat} (hw : WAt w wb mb n s.rd s.lo s.M) (hn : n ≤ 1000) (hr : RAt w B rb A1 A2 c1 c2 t.rd t.lo t.M) (hB : B ≤ w.heap.size) (gs : s.Good 1000) (gt : t.Good 1000) (hd1 : wb ∉ fp rb A1 A2 t.M.length c1 c2) (hd2 : mb ∉ fp rb A1 A2 t.M.length c1 c2) (wa : In64 o.a) (hI : IntsAt w A o.l) (hl : o.l.length ≤ 1000) (hA : o.l ≠ [] → ∀ a, A = some a → a.block ∉ [wb, mb]) :
    Calls Try.prog 12 #[.pointer (some ⟨wb, 0, none⟩), .pointer (some ⟨rb, 0, none⟩), opVal o A d] w fun e w' => ∃ b : Bool, e = .returned (.bool b) ∧ (s = t → b = true) ∧
      ∃ n', n' ≤ n + 1 ∧ WAt w' wb mb n' (s.step o).rd (s.step o).lo (s.step o).M ∧ ∃ A1' A2' c1' c2', RAt w' B rb A1' A2' c1' c2' (t.step o).rd (t.step o).lo (t.step o).M ∧ Only (wb :: mb :: fp rb A1 A2 t.M.length c1 c2) w w' := by
  by_cases h0 : o.ask = 0
  · refine (does_sent hw hn hr hB gt hd1 hd2 wa h0).mono ?_
    rintro e w' ⟨b, rfl, hb, hW, rest⟩
    exact ⟨b, rfl, hb, n + 1, Nat.le_refl _, hW, rest⟩
  by_cases h1 : o.ask = 1
  · refine (does_acked hw hn hr hB gs gt hd1 hd2 wa h1).mono ?_
    rintro e w' ⟨b, rfl, hb, hW, rest⟩
    exact ⟨b, rfl, hb, n, by omega, hW, rest⟩
  · refine (does_start hw hr gs gt hd1 hd2 hI hl hA h0 h1).mono ?_
    rintro e w' ⟨b, rfl, hb, hW, rest⟩
    exact ⟨b, rfl, hb, n, by omega, hW, rest⟩
end
end Go.Proofs.Ytdommbaljchofaa
