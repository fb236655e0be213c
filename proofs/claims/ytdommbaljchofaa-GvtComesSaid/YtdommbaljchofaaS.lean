/-
  A worker's call, of the given worker and of the reference's: what they answer.
-/
import Derived.Test.YtdommbaljchofaaR7
import Derived.Test.YtdommbaljchofaaO
namespace Go.Proofs.Ytdommbaljchofaa
open Go.RowKit Go.Deep
set_option linter.unusedVariables false

/-- A worker: round, low, the messages that wait. -/
structure WS where
  rd : Int
  lo : Int
  M : List (Int × Int)
def WS.step (s : WS) (o : OpV) : WS :=
  if o.ask = 0 then ⟨s.rd, s.lo, sentM s.M o.a o.b⟩ else if o.ask = 1 then ⟨s.rd, ackedLo s.M s.rd s.lo o.a o.b, ackedM s.M s.rd o.a o.b⟩ else ⟨startRd s.rd o.a o.l, startLo s.rd s.lo o.a o.l, s.M⟩
structure WS.Good (s : WS) (k : Nat) : Prop where
  r0 : 0 ≤ s.rd
  r1 : s.rd ≤ k
  m : s.M.length ≤ k
  nd : s.M.Pairwise (fun a b => a.1 ≠ b.1)
theorem WS.Good.more {s : WS} {k k' : Nat} (h : s.Good k) (hk : k ≤ k') : s.Good k' := ⟨h.r0, by have := h.r1; omega, by have := h.m; omega, h.nd⟩
theorem sentM_nd {M : List (Int × Int)} {no at_ : Int} (h : M.Pairwise (fun a b => a.1 ≠ b.1)) : (sentM M no at_).Pairwise (fun a b => a.1 ≠ b.1) := by
  unfold sentM
  split
  · rename_i hc
    have h3 : no ∉ M.map (·.1) := by
      intro h3
      simp only [sentCode] at hc
      by_cases h1 : no < 0
      · rw [if_pos h1] at hc; omega
      · rw [if_neg h1] at hc
        by_cases h2 : IsTime at_
        · rw [if_pos h2, if_pos (any_mem.2 h3)] at hc; omega
        · rw [if_neg h2] at hc; omega
    refine List.pairwise_append.2 ⟨h, by simp, fun a ha b hb => ?_⟩
    simp only [List.mem_singleton] at hb
    subst hb
    intro e
    have e' : a.1 = no := e
    exact h3 (by rw [← e']; exact List.mem_map_of_mem ha)
  · exact h
theorem sentM_len {M : List (Int × Int)} {no at_ : Int} : (sentM M no at_).length ≤ M.length + 1 := by
  unfold sentM
  split <;> simp
theorem ackedM_len {M : List (Int × Int)} {rd no at_ : Int} : (ackedM M rd no at_).length ≤ M.length := by
  unfold ackedM
  split
  · exact List.length_filter_le _ _
  · exact Nat.le_refl _
theorem WS.Good.step {s : WS} {k : Nat} (h : s.Good k) (o : OpV) : (s.step o).Good (k + 1) := by
  obtain ⟨h0, h1, h2, h3⟩ := h
  unfold WS.step
  by_cases e0 : o.ask = 0
  · rw [if_pos e0]
    exact ⟨h0, by simp; omega, by have := @sentM_len s.M o.a o.b; simp only; omega, sentM_nd h3⟩
  · rw [if_neg e0]
    by_cases e1 : o.ask = 1
    · rw [if_pos e1]
      refine ⟨h0, by simp; omega, by have := @ackedM_len s.M s.rd o.a o.b; simp only; omega, ?_⟩
      simp only [ackedM]
      split
      · exact h3.sublist List.filter_sublist
      · exact h3
    · rw [if_neg e1]
      refine ⟨?_, ?_, by simp only; omega, h3⟩
      · simp only [startRd, startCode]
        split <;> (try split) <;> simp_all <;> omega
      · simp only [startRd, startCode]
        split <;> (try split) <;> simp_all <;> omega

section
variable {w : World} {B wb : Nat} {A1 A2 : Option Addr} {c1 c2 : Nat} {rd lo no at_ mark : Int} {M : List (Int × Int)}
theorem rsent_any (h : RAt w B wb A1 A2 c1 c2 rd lo M) (hB : B ≤ w.heap.size) (hM : M.length ≤ 1000) :
    Calls Try.prog 34 #[.pointer (some ⟨wb, 0, none⟩), .int .i64 no, .int .i64 at_] w fun e w' => e = .returned (.int .i64 (sentCode M no at_)) ∧ ∃ A1' A2' c1' c2', RAt w' B wb A1' A2' c1' c2' rd lo (sentM M no at_) ∧ Only (fp wb A1 A2 M.length c1 c2) w w' := by
  by_cases hc : sentCode M no at_ = 0
  · refine (rsent_ok h hB hM hc).mono ?_
    rintro e w' ⟨rfl, A1', A2', c1', c2', h1, h2⟩
    exact ⟨by rw [hc], A1', A2', c1', c2', by rw [sentM, if_pos hc]; exact h1, h2⟩
  · refine (rsent_bad h hM hc).mono ?_
    rintro e w' ⟨rfl, rfl⟩
    exact ⟨rfl, A1, A2, c1, c2, by rw [sentM, if_neg hc]; exact h, Only.refl _ _⟩
theorem racked_any (h : RAt w B wb A1 A2 c1 c2 rd lo M) (hB : B ≤ w.heap.size) (hM : M.length ≤ 1000) (hnd : M.Pairwise (fun a b => a.1 ≠ b.1)) (h0 : 0 ≤ rd) (hr : rd ≤ 1000000) :
    Calls Try.prog 35 #[.pointer (some ⟨wb, 0, none⟩), .int .i64 no, .int .i64 mark] w fun e w' => e = .returned (.int .i64 (ackedCode M rd no mark)) ∧ ∃ A1' A2' c1' c2', RAt w' B wb A1' A2' c1' c2' rd (ackedLo M rd lo no mark) (ackedM M rd no mark) ∧ Only (fp wb A1 A2 M.length c1 c2) w w' := by
  by_cases hc : ackedCode M rd no mark = 0
  · refine (racked_ok h hB hM hnd hc h0 hr rfl).mono ?_
    rintro e w' ⟨rfl, A1', A2', c1', c2', h1, h2⟩
    refine ⟨by rw [hc], A1', A2', c1', c2', ?_, h2.mono (by simp [fp])⟩
    rw [ackedM, if_pos hc]
    have e : ackedLo M rd lo no mark = if rd < mark then min lo (valOf M no) else lo := by simp [ackedLo, hc]
    rw [e]
    exact h1
  · refine (racked_none h hM hc h0 hr).mono ?_
    rintro e w' ⟨rfl, rfl⟩
    refine ⟨rfl, A1, A2, c1, c2, ?_, Only.refl _ _⟩
    rw [ackedM, if_neg hc]
    have e : ackedLo M rd lo no mark = lo := by simp [ackedLo, hc]
    rw [e]
    exact h
end

theorem Only.undrew2 {s : List Nat} {w w' : World} (h : Only s w.drew w') : Only s w w' := ⟨h.os, h.tape, h.output, h.size, h.block⟩
theorem off2 {s : List Nat} {a b : Nat} (h1 : a ∉ s) (h2 : b ∉ s) : ∀ x ∈ s, x ∉ [a, b] := by
  intro x hx hm
  simp at hm
  rcases hm with rfl | rfl
  · exact h1 hx
  · exact h2 hx
theorem RAt.fresh {w : World} {B wb : Nat} {A1 A2 : Option Addr} {c1 c2 : Nat} {rd lo : Int} {M : List (Int × Int)} (h : RAt w B wb A1 A2 c1 c2 rd lo M) : w.heap.size ∉ fp wb A1 A2 M.length c1 c2 := by
  intro hm
  have l0 := h.lt
  have l1 := owned_lt h.no w.heap.size
  have l2 := owned_lt h.at_ w.heap.size
  simp only [List.length_map] at l1 l2
  simp only [fp, ob, List.mem_cons, List.mem_append, Option.mem_toList] at hm
  rcases hm with e | e | e
  · omega
  · have := l1 e; omega
  · have := l2 e; omega

section
variable {w : World} {B wb mb n rb : Nat} {A1 A2 A : Option Addr} {c1 c2 c : Nat} {s t : WS} {o : OpV}
/-- A worker's call of the given worker and of the reference's. -/
def opVal (o : OpV) (A : Option Addr) (d : Nat) : Value := .agg #[.int .i64 o.ask, .int .i64 o.a, .int .i64 o.b, .int .i64 o.c, .slice A o.l.length d]
set_option maxHeartbeats 4000000 in
set_option maxRecDepth 100000 in
theorem does_sent {d : Nat} (hw : WAt w wb mb n s.rd s.lo s.M) (hn : n ≤ 1000) (hr : RAt w B rb A1 A2 c1 c2 t.rd t.lo t.M) (hB : B ≤ w.heap.size) (gt : t.Good 1000) (hd1 : wb ∉ fp rb A1 A2 t.M.length c1 c2) (hd2 : mb ∉ fp rb A1 A2 t.M.length c1 c2) (wa : In64 o.a) (h0 : o.ask = 0) :
    Calls Try.prog 12 #[.pointer (some ⟨wb, 0, none⟩), .pointer (some ⟨rb, 0, none⟩), opVal o A d] w fun e w' => ∃ b : Bool, e = .returned (.bool b) ∧ (s = t → b = true) ∧
      WAt w' wb mb (n + 1) (s.step o).rd (s.step o).lo (s.step o).M ∧ ∃ A1' A2' c1' c2', RAt w' B rb A1' A2' c1' c2' (t.step o).rd (t.step o).lo (t.step o).M ∧ Only (wb :: mb :: fp rb A1 A2 t.M.length c1 c2) w w' := by
  obtain ⟨ask, oa, obb, oc, ol⟩ := o
  subst h0
  have es : s.step ⟨0, oa, obb, oc, ol⟩ = ⟨s.rd, s.lo, sentM s.M oa obb⟩ := by simp [WS.step]
  have et : t.step ⟨0, oa, obb, oc, ol⟩ = ⟨t.rd, t.lo, sentM t.M oa obb⟩ := by simp [WS.step]
  rw [es, et]
  unfold opVal
  simp only
  simp only at wa
  clear es et
  have HW := hide hw
  have HR := hide hr
  have HD1 := hide hd1
  have HD2 := hide hd2
  have HWA := hide wa
  have HG := hide gt
  clear hw hr hd1 hd2 wa gt
  go_enter Try.func12, Try.ntmps12
  go_wp2_with fail
  obtain ⟨x, hx⟩ : ∃ x, sentCode s.M oa obb = x := ⟨_, rfl⟩
  obtain ⟨y, hy⟩ : ∃ y, sentCode t.M oa obb = y := ⟨_, rfl⟩
  have HX : Hid (s = t → x = y) := fun e => by rw [← hx, ← hy, e]
  obtain ⟨w1, hw1⟩ : ∃ w1, w1 = (w.alloc (.cells #[.int .i64 0, .int .i64 oa, .int .i64 obb, .int .i64 oc, .slice A ol.length d] 33)) := ⟨_, rfl⟩
  have hq := fun j u hj => new_cells w #[.int .i64 0, .int .i64 oa, .int .i64 obb, .int .i64 oc, .slice A ol.length d] 33 _ rfl j u hj
  rw [← hw1] at hq ⊢
  have hO1 : Only [] w w1 := by rw [hw1]; exact (Only.refl _ _).alloc _
  have hkb : w.heap.size < w1.heap.size := by rw [hw1]; simp
  have q1 : w1.cell? ⟨w.heap.size, 1, none⟩ = some (.int .i64 oa) := hq 1 _ rfl
  have q2 : w1.cell? ⟨w.heap.size, 2, none⟩ = some (.int .i64 obb) := hq 2 _ rfl
  have HW1 : Hid (WAt w1 wb mb n s.rd s.lo s.M) := (unhide HW).only0 hO1
  have HR1 : Hid (RAt w1 B rb A1 A2 c1 c2 t.rd t.lo t.M) := (unhide HR).only0 hO1
  have HN1 : Hid (w.heap.size ∉ [wb, mb]) := by
    show w.heap.size ∉ [wb, mb]
    have := (unhide HW).lt
    have := (unhide HW).lt2
    simp; omega
  have HN2 : Hid (w.heap.size ∉ fp rb A1 A2 t.M.length c1 c2) := (unhide HR).fresh
  have HO1 := hide hO1
  have hB1 : B ≤ w1.heap.size := by omega
  have HC1 : Hid (Calls Try.prog 32 #[.pointer (some ⟨wb, 0, none⟩), .int .i64 oa, .int .i64 obb] w1.drew fun e w' => e = .returned (.int .i64 x) ∧ WAt w' wb mb (n + 1) s.rd s.lo (sentM s.M oa obb) ∧ Only [wb, mb] w1.drew w') := by
    have h' := sent_any (no := oa) (at_ := obb) ((unhide HW1).only0 ((Only.refl _ _).drew)) (by omega) (unhide HWA).wf
    rw [hx] at h'
    exact h'
  have HC2 : Hid (∀ w2 : World, B ≤ w2.heap.size → RAt w2 B rb A1 A2 c1 c2 t.rd t.lo t.M → Calls Try.prog 34 #[.pointer (some ⟨rb, 0, none⟩), .int .i64 oa, .int .i64 obb] w2 fun e w' => e = .returned (.int .i64 y) ∧ ∃ A1' A2' c1' c2', RAt w' B rb A1' A2' c1' c2' t.rd t.lo (sentM t.M oa obb) ∧ Only (fp rb A1 A2 t.M.length c1 c2) w2 w') := by
    intro w2 hb h2
    have h' := rsent_any (no := oa) (at_ := obb) h2 hb (unhide HG).m
    rw [hy] at h'
    exact h'
  clear hx hy hw1 hq hO1
  generalize w.heap.size = kb at *
  go_region_held3 (fun w' => w'.cell? ⟨kb, 1, none⟩ = some (.int .i64 oa) ∧ w'.cell? ⟨kb, 2, none⟩ = some (.int .i64 obb)) (first | exact ⟨q1, q2⟩ | exact unhide HKP | go_keep) (first | (go_at_call 32; (with_reducible refine Calls.mono (unhide HC1) ?_); rintro e w2 ⟨rfl, hW2, hO2⟩; have HKP := hide (And.intro ((hO2.cell (p := ⟨kb, 1, none⟩) hkb (unhide HN1)).trans q1) ((hO2.cell (p := ⟨kb, 2, none⟩) hkb (unhide HN1)).trans q2)); have HR2 : Hid (RAt w2 B rb A1 A2 c1 c2 t.rd t.lo t.M) := (unhide HR1).only hO2.undrew2 (off2 (unhide HD1) (unhide HD2)); have HW2 := hide hW2; have hkb2 : kb < w2.heap.size := Nat.lt_of_lt_of_le hkb hO2.size; have hB2 : B ≤ w2.heap.size := Nat.le_trans hB1 hO2.size; have HO2 : Hid (Only [wb, mb] w1 w2) := hO2.undrew2; clear hW2 hO2) | (go_at_call 34; (with_reducible refine Calls.mono (unhide HC2 _ hB2 (unhide HR2)) ?_); rintro e w3 ⟨rfl, A1', A2', c1', c2', hR3, hO3⟩; have HKP3 := hide (And.intro ((hO3.cell (p := ⟨kb, 1, none⟩) hkb2 (unhide HN2)).trans (unhide HKP).1) ((hO3.cell (p := ⟨kb, 2, none⟩) hkb2 (unhide HN2)).trans (unhide HKP).2)); have HKP := HKP3; have HR3 := hide hR3; have HW3 : Hid (WAt w3 wb mb (n + 1) s.rd s.lo (sentM s.M oa obb)) := (unhide HW2).only hO3 (unhide HD1) (unhide HD2); have HO3 := hide hO3; clear hR3 hO3))
  go_wp2_with fail
  go_ret
  exact ⟨_, rfl, fun e => by rw [unhide HX e]; simp, unhide HW3, A1', A2', c1', c2', unhide HR3, (((unhide HO1).mono (by simp)).trans ((unhide HO2).mono (by intro i hi; simp at hi; simp; omega))).trans ((unhide HO3).mono (by intro i hi; simp [hi]))⟩
set_option maxHeartbeats 4000000 in
set_option maxRecDepth 100000 in
theorem does_acked {d : Nat} (hw : WAt w wb mb n s.rd s.lo s.M) (hn : n ≤ 1000) (hr : RAt w B rb A1 A2 c1 c2 t.rd t.lo t.M) (hB : B ≤ w.heap.size) (gs : s.Good 1000) (gt : t.Good 1000) (hd1 : wb ∉ fp rb A1 A2 t.M.length c1 c2) (hd2 : mb ∉ fp rb A1 A2 t.M.length c1 c2) (wa : In64 o.a) (h0 : o.ask = 1) :
    Calls Try.prog 12 #[.pointer (some ⟨wb, 0, none⟩), .pointer (some ⟨rb, 0, none⟩), opVal o A d] w fun e w' => ∃ b : Bool, e = .returned (.bool b) ∧ (s = t → b = true) ∧
      WAt w' wb mb n (s.step o).rd (s.step o).lo (s.step o).M ∧ ∃ A1' A2' c1' c2', RAt w' B rb A1' A2' c1' c2' (t.step o).rd (t.step o).lo (t.step o).M ∧ Only (wb :: mb :: fp rb A1 A2 t.M.length c1 c2) w w' := by
  obtain ⟨ask, oa, obb, oc, ol⟩ := o
  subst h0
  have es : s.step ⟨1, oa, obb, oc, ol⟩ = ⟨s.rd, ackedLo s.M s.rd s.lo oa obb, ackedM s.M s.rd oa obb⟩ := by simp [WS.step]
  have et : t.step ⟨1, oa, obb, oc, ol⟩ = ⟨t.rd, ackedLo t.M t.rd t.lo oa obb, ackedM t.M t.rd oa obb⟩ := by simp [WS.step]
  rw [es, et]
  unfold opVal
  simp only
  simp only at wa
  clear es et
  have HW := hide hw
  have HR := hide hr
  have HD1 := hide hd1
  have HD2 := hide hd2
  have HWA := hide wa
  have HG := hide gt
  have HGS := hide gs
  clear hw hr hd1 hd2 wa gt gs
  go_enter Try.func12, Try.ntmps12
  go_wp2_with fail
  obtain ⟨x, hx⟩ : ∃ x, ackedCode s.M s.rd oa obb = x := ⟨_, rfl⟩
  obtain ⟨y, hy⟩ : ∃ y, ackedCode t.M t.rd oa obb = y := ⟨_, rfl⟩
  have HX : Hid (s = t → x = y) := fun e => by rw [← hx, ← hy, e]
  obtain ⟨w1, hw1⟩ : ∃ w1, w1 = (w.alloc (.cells #[.int .i64 1, .int .i64 oa, .int .i64 obb, .int .i64 oc, .slice A ol.length d] 33)) := ⟨_, rfl⟩
  have hq := fun j u hj => new_cells w #[.int .i64 1, .int .i64 oa, .int .i64 obb, .int .i64 oc, .slice A ol.length d] 33 _ rfl j u hj
  rw [← hw1] at hq ⊢
  have hO1 : Only [] w w1 := by rw [hw1]; exact (Only.refl _ _).alloc _
  have hkb : w.heap.size < w1.heap.size := by rw [hw1]; simp
  have q1 : w1.cell? ⟨w.heap.size, 1, none⟩ = some (.int .i64 oa) := hq 1 _ rfl
  have q2 : w1.cell? ⟨w.heap.size, 2, none⟩ = some (.int .i64 obb) := hq 2 _ rfl
  have HW1 : Hid (WAt w1 wb mb n s.rd s.lo s.M) := (unhide HW).only0 hO1
  have HR1 : Hid (RAt w1 B rb A1 A2 c1 c2 t.rd t.lo t.M) := (unhide HR).only0 hO1
  have HN1 : Hid (w.heap.size ∉ [wb, mb]) := by
    show w.heap.size ∉ [wb, mb]
    have := (unhide HW).lt
    have := (unhide HW).lt2
    simp; omega
  have HN2 : Hid (w.heap.size ∉ fp rb A1 A2 t.M.length c1 c2) := (unhide HR).fresh
  have HO1 := hide hO1
  have hB1 : B ≤ w1.heap.size := by omega
  have HC1 : Hid (Calls Try.prog 33 #[.pointer (some ⟨wb, 0, none⟩), .int .i64 oa, .int .i64 obb] w1.drew fun e w' => e = .returned (.int .i64 x) ∧ WAt w' wb mb n s.rd (ackedLo s.M s.rd s.lo oa obb) (ackedM s.M s.rd oa obb) ∧ Only [wb, mb] w1.drew w') := by
    have h' := acked_any (no := oa) (mark := obb) ((unhide HW1).only0 ((Only.refl _ _).drew)) (unhide HWA).wf (unhide HGS).r0 (by have := (unhide HGS).r1; omega)
    rw [hx] at h'
    exact h'
  have HC2 : Hid (∀ w2 : World, B ≤ w2.heap.size → RAt w2 B rb A1 A2 c1 c2 t.rd t.lo t.M → Calls Try.prog 35 #[.pointer (some ⟨rb, 0, none⟩), .int .i64 oa, .int .i64 obb] w2 fun e w' => e = .returned (.int .i64 y) ∧ ∃ A1' A2' c1' c2', RAt w' B rb A1' A2' c1' c2' t.rd (ackedLo t.M t.rd t.lo oa obb) (ackedM t.M t.rd oa obb) ∧ Only (fp rb A1 A2 t.M.length c1 c2) w2 w') := by
    intro w2 hb h2
    have h' := racked_any (no := oa) (mark := obb) h2 hb (unhide HG).m (unhide HG).nd (unhide HG).r0 (by have := (unhide HG).r1; omega)
    rw [hy] at h'
    exact h'
  clear hx hy hw1 hq hO1
  generalize w.heap.size = kb at *
  go_region_held3 (fun w' => w'.cell? ⟨kb, 1, none⟩ = some (.int .i64 oa) ∧ w'.cell? ⟨kb, 2, none⟩ = some (.int .i64 obb)) (first | exact ⟨q1, q2⟩ | exact unhide HKP | go_keep) (first | (go_at_call 33; (with_reducible refine Calls.mono (unhide HC1) ?_); rintro e w2 ⟨rfl, hW2, hO2⟩; have HKP := hide (And.intro ((hO2.cell (p := ⟨kb, 1, none⟩) hkb (unhide HN1)).trans q1) ((hO2.cell (p := ⟨kb, 2, none⟩) hkb (unhide HN1)).trans q2)); have HR2 : Hid (RAt w2 B rb A1 A2 c1 c2 t.rd t.lo t.M) := (unhide HR1).only hO2.undrew2 (off2 (unhide HD1) (unhide HD2)); have HW2 := hide hW2; have hkb2 : kb < w2.heap.size := Nat.lt_of_lt_of_le hkb hO2.size; have hB2 : B ≤ w2.heap.size := Nat.le_trans hB1 hO2.size; have HO2 : Hid (Only [wb, mb] w1 w2) := hO2.undrew2; clear hW2 hO2) | (go_at_call 35; (with_reducible refine Calls.mono (unhide HC2 _ hB2 (unhide HR2)) ?_); rintro e w3 ⟨rfl, A1', A2', c1', c2', hR3, hO3⟩; have HKP3 := hide (And.intro ((hO3.cell (p := ⟨kb, 1, none⟩) hkb2 (unhide HN2)).trans (unhide HKP).1) ((hO3.cell (p := ⟨kb, 2, none⟩) hkb2 (unhide HN2)).trans (unhide HKP).2)); have HKP := HKP3; have HR3 := hide hR3; have HW3 : Hid (WAt w3 wb mb n s.rd (ackedLo s.M s.rd s.lo oa obb) (ackedM s.M s.rd oa obb)) := (unhide HW2).only hO3 (unhide HD1) (unhide HD2); have HO3 := hide hO3; clear hR3 hO3))
  go_wp2_with fail
  go_ret
  exact ⟨_, rfl, fun e => by rw [unhide HX e]; simp, unhide HW3, A1', A2', c1', c2', unhide HR3, (((unhide HO1).mono (by simp)).trans ((unhide HO2).mono (by intro i hi; simp at hi; simp; omega))).trans ((unhide HO3).mono (by intro i hi; simp [hi]))⟩
end
end Go.Proofs.Ytdommbaljchofaa
