/-
  The statements' world, no program in sight: a report comes; the beginning; the least time.
-/
import Derived.Test.YtdommbaljchofaaYC
namespace Go.Proofs.Ytdommbaljchofaa
set_option linter.unusedVariables false

theorem toldUp_true {told : Nat → Bool} {k j : Nat} : toldUp told k j = true ↔ j = k ∨ told j = true := by
  unfold toldUp
  by_cases e : j = k
  · simp [e]
  · simp [e]
theorem toldUp_false {told : Nat → Bool} {k j : Nat} : toldUp told k j = false ↔ j ≠ k ∧ told j = false := by
  unfold toldUp
  by_cases e : j = k
  · simp [e]
  · simp [e]

theorem Inv.repFacts {P : PS} {p : Pk} (h : Inv P) (hp : p ∈ P.l) (hk : p.kind = 3) : ∃ d : Nat, p.fr = (d : Int) ∧ p.no = P.rd ∧ P.run = true ∧ d < P.n ∧ IsTime p.tm ∧ P.told d = false := by
  obtain ⟨h1, h2, h3, d, s, h4, h5, h6, h7⟩ := h.rp p hp hk
  exact ⟨d, h4, h2, h1, by rw [← h.lw]; exact (List.getElem?_eq_some_iff.1 h5).1, h3, h7⟩

theorem Inv.reported {P : PS} {p : Pk} {rest : List Pk} {d : Nat} (h : Inv { P with l := p :: rest }) (hk : p.kind = 3) (hd : p.fr = (d : Int)) :
    Inv { P with l := rest, told := toldUp P.told d, run := !allTold P.n (toldUp P.told d), least := min P.least p.tm, time := if allTold P.n (toldUp P.told d) = true then max P.time (min P.least p.tm) else P.time } := by
  obtain ⟨hrun, hno, htm, d', s, h4, h5, h6, h7⟩ := h.rp p (by simp) hk
  have e : d' = d := by omega
  subst e
  simp only at hrun hno h5 h6 h7
  have hu := List.pairwise_cons.1 h.uniq
  have hin : ∀ q ∈ rest, q ∈ p :: rest := fun q hq => by simp [hq]
  have hln := h.ln hrun
  have htn := h.tn
  simp only at hln htn
  -- once all have told, nothing of the round is left
  have hall : allTold P.n (toldUp P.told d') = true → (∀ (j : Nat) (r : WS), P.ws[j]? = some r → r.rd = P.rd) ∧ (∀ q ∈ rest, q.kind ≠ 2) ∧ (∀ q ∈ rest, q.kind ≠ 3) := by
    intro ha
    have ha' := allTold_true.1 ha
    have hrd : ∀ (j : Nat) (r : WS), P.ws[j]? = some r → r.rd = P.rd := by
      intro j r hj
      have hjn : j < P.n := by have := h.lw; simp only at this; rw [← this]; exact (List.getElem?_eq_some_iff.1 hj).1
      rcases toldUp_true.1 (ha' j hjn) with rfl | ht
      · rw [h5] at hj
        injection hj with hj
        rw [← hj]
        exact h6
      · exact h.td hrun j r hj ht
    refine ⟨hrd, fun q hq hkq => ?_, fun q hq hkq => ?_⟩
    · obtain ⟨_, _, d2, r, _, a4, a5, _⟩ := h.st q (hin q hq) hkq
      have := hrd d2 r a4
      simp only at a5
      omega
    · obtain ⟨d2, b1, _, _, b4, _, b6⟩ := h.repFacts (hin q hq) hkq
      simp only at b4 b6
      rcases toldUp_true.1 (ha' d2 b4) with rfl | ht
      · exact (hu.1 q hq).2.2 hk hkq (by rw [hd, b1])
      · rw [b6] at ht; cases ht
  have hcovD : allTold P.n (toldUp P.told d') = true → ∀ x, Cov { P with l := p :: rest } x → min P.least p.tm ≤ x := by
    intro ha x hx
    obtain ⟨g1, g2, g3⟩ := hall ha
    rcases hx with h | ⟨q, hq, hk', ht⟩ | ⟨j, r, hj, hr, hx⟩
    · simp only at h; omega
    · simp only [List.mem_cons] at hq
      rcases hq with rfl | hq
      · omega
      · exact absurd hk' (g3 q hq)
    · have := g1 j r hj
      simp only at hr
      omega
  have hrun' : (!allTold P.n (toldUp P.told d')) = true → allTold P.n (toldUp P.told d') = false := fun e => by cases hb : allTold P.n (toldUp P.told d') <;> simp_all
  have hcov : ∀ x, Cov { P with l := p :: rest } x → Cov { P with l := rest, told := toldUp P.told d', run := !allTold P.n (toldUp P.told d'), least := min P.least p.tm, time := if allTold P.n (toldUp P.told d') = true then max P.time (min P.least p.tm) else P.time } x := by
    intro x hx
    rcases hx with h | ⟨q, hq, hk', ht⟩ | ⟨j, r, hj, hr, hx⟩
    · exact .inl (by simp only at h ⊢; omega)
    · simp only [List.mem_cons] at hq
      rcases hq with rfl | hq
      · exact .inl (by simp only; omega)
      · exact .inr (.inl ⟨q, hq, hk', ht⟩)
    · refine .inr (.inr ⟨j, r, hj, hr, ?_⟩)
      rcases hx with hx | ⟨q, hq, hk', hdq, htq, b, hb, hx⟩
      · exact .inl hx
      · simp only [List.mem_cons] at hq
        rcases hq with rfl | hq
        · omega
        · exact .inr ⟨q, hq, hk', hdq, htq, b, hb, hx⟩
  have hut : ∀ d2, d2 < P.n → toldUp P.told d' d2 = false → (!allTold P.n (toldUp P.told d')) = true := by
    intro d2 hd2 hf
    cases hb : allTold P.n (toldUp P.told d') with
    | false => rfl
    | true =>
      have := allTold_true.1 hb d2 hd2
      rw [hf] at this
      cases this
  have hlen : ∀ (j : Nat) (r : WS), P.ws[j]? = some r → j < P.n := fun j r hj => by have := h.lw; simp only at this; rw [← this]; exact (List.getElem?_eq_some_iff.1 hj).1
  refine ⟨h.lw, h.lo, h.n1, h.n8, h.r0, h.s0, ?_, h.lot, h.nd, h.mt, h.opt, fun q hq => h.kinds q (hin q hq), fun q hq => h.msg q (hin q hq), fun q hq => h.ack q (hin q hq), ?_, ?_, hu.2, ?_, ?_, ?_, ?_, ?_, ?_, ?_, ?_, ?_⟩
  · intro j r hj
    refine ⟨(h.rdj j r hj).1, ?_⟩
    cases hb : allTold P.n (toldUp P.told d') with
    | true => exact .inl ((hall hb).1 j r hj)
    | false =>
      rcases (h.rdj j r hj).2 with e | ⟨_, e⟩
      · exact .inl e
      · exact .inr ⟨by simp, e⟩
  · intro q hq hkq
    obtain ⟨a1, a2, d2, r, a3, a4, a5, a6⟩ := h.st q (hin q hq) hkq
    simp only at a4 a5 a6
    have hf : toldUp P.told d' d2 = false := toldUp_false.2 ⟨fun e => by
      subst e
      rw [h5] at a4
      injection a4 with a4
      subst a4
      omega, a6⟩
    exact ⟨hut d2 (hlen d2 r a4) hf, a2, d2, r, a3, a4, a5, hf⟩
  · intro q hq hkq
    obtain ⟨a1, a2, a3, d2, r, a4, a5, a6, a7⟩ := h.rp q (hin q hq) hkq
    simp only at a5 a6 a7
    have hf : toldUp P.told d' d2 = false := toldUp_false.2 ⟨fun e => (hu.1 q hq).2.2 hk hkq (by rw [hd, a4, e]), a7⟩
    exact ⟨hut d2 (hlen d2 r a5) hf, a2, a3, d2, r, a4, a5, a6, hf⟩
  · intro _ d2 r hd2 htd
    rcases toldUp_true.1 htd with rfl | ht
    · simp only at hd2
      rw [h5] at hd2
      injection hd2 with hd2
      rw [← hd2]
      exact h6
    · exact h.td hrun d2 r hd2 ht
  · intro hr
    have hb := hrun' hr
    have hnot : ¬ ∀ j < P.n, toldUp P.told d' j = true := fun hh => by
      have := allTold_true.2 hh
      rw [hb] at this
      cases this
    by_cases hex : ∃ j, j < P.n ∧ toldUp P.told d' j = false
    · exact hex
    · exfalso
      apply hnot
      intro j hj
      cases hb2 : toldUp P.told d' j with
      | true => rfl
      | false => exact absurd ⟨j, hj, hb2⟩ hex
  · intro _ d2 r hd2
    rcases h.live hrun d2 r hd2 with a1 | ⟨a1, q, hq, a2⟩ | ⟨a1, q, hq, a2⟩
    · exact .inl (toldUp_true.2 (.inr a1))
    · simp only [List.mem_cons] at hq
      rcases hq with rfl | hq
      · omega
      · exact .inr (.inl ⟨a1, q, hq, a2⟩)
    · simp only [List.mem_cons] at hq
      rcases hq with rfl | hq
      · exact .inl (toldUp_true.2 (.inl (by have := a2.2; omega)))
      · exact .inr (.inr ⟨a1, q, hq, a2⟩)
  · have h1 := htm.1
    have h2 := htm.2
    have e : Never = 1073741825 := rfl
    simp only
    split <;> omega
  · intro _
    have h1 := htm.1
    have h2 := htm.2
    have e : Never = 1073741825 := rfl
    simp only
    omega
  · intro j L t hj ht
    have h1 := h.tgo j L t hj ht
    simp only at h1 ⊢
    split
    · rename_i ha
      have hjl : j < P.ws.length := by
        have e1 := h.lw
        have e2 := h.lo
        simp only at e1 e2
        rw [e1, ← e2]
        exact (List.getElem?_eq_some_iff.1 hj).1
      have hws := List.getElem?_eq_getElem hjl
      have := hcovD ha t (h.cvo hrun j _ L t hws ((hall ha).1 j _ hws) hj ht)
      omega
    · exact h1
  · intro q hq hkq
    have h1 := h.tgm q (hin q hq) hkq
    simp only at h1 ⊢
    split
    · rename_i ha
      obtain ⟨f, d2, r, a1, _, _, a4, _⟩ := h.msg q (hin q hq) hkq
      have := hcovD ha q.tm (h.cvm hrun q (hin q hq) hkq f r a1 a4 ((hall ha).1 f r a4))
      omega
    · exact h1
  · intro hr j r L t a1 a2 a3 a4
    exact hcov _ (h.cvo hrun j r L t a1 a2 a3 a4)
  · intro hr q hq hkq f r a1 a2 a3
    exact hcov _ (h.cvm hrun q (hin q hq) hkq f r a1 a2 a3)

theorem foldl_min_ge {x : Int} (L : List Int) : ∀ a, x ≤ a → (∀ t ∈ L, x ≤ t) → x ≤ L.foldl min a := by
  induction L with
  | nil => intro a h _; exact h
  | cons t L ih =>
    intro a h1 h2
    rw [List.foldl_cons]
    have := h2 t (by simp)
    exact ih _ (by omega) (fun u hu => h2 u (by simp [hu]))
theorem leastX_ge {x : Int} {O : List (List Int)} {l : List Pk} (h0 : x ≤ Never) (h1 : ∀ L ∈ O, ∀ t ∈ L, x ≤ t) (h2 : ∀ p ∈ l, p.kind = 0 → x ≤ p.tm) : x ≤ leastX O l := by
  unfold leastX
  have hb : x ≤ O.flatten.foldl min Never := foldl_min_ge _ _ h0 fun t ht => by
    obtain ⟨L, hL, htL⟩ := List.mem_flatten.1 ht
    exact h1 L hL t htL
  generalize O.flatten.foldl min Never = a at hb
  induction l generalizing a with
  | nil => exact hb
  | cons p l ih =>
    rw [List.foldl_cons]
    refine ih (fun q hq => h2 q (by simp [hq])) _ ?_
    unfold pmin
    split
    · rename_i hk
      have := h2 p (by simp) hk
      omega
    · exact hb
theorem Inv.below {P : PS} (h : Inv P) : P.time ≤ leastX P.op P.l :=
  leastX_ge h.tn.2 (fun L hL t ht => by
    obtain ⟨j, hj⟩ := List.mem_iff_getElem?.1 hL
    exact h.tgo j L t hj ht) h.tgm

theorem Inv.start {n : Nat} {O : List (List Int)} (h1 : 1 ≤ n) (h2 : n ≤ 8) (hO : O.length = n) (ht : ∀ L ∈ O, ∀ t ∈ L, 0 ≤ t ∧ t ≤ 1073741824) (told : Nat → Bool) :
    Inv ⟨List.replicate n ⟨0, Never, []⟩, O, [], n, 0, told, false, 0, 0, 0⟩ := by
  have hr : ∀ (j : Nat) (s : WS), (List.replicate n (⟨0, Never, []⟩ : WS))[j]? = some s → s = ⟨0, Never, []⟩ := fun j s hj => by
    have := List.mem_of_getElem? hj
    exact (List.mem_replicate.1 this).2
  refine ⟨by simp, hO, h1, h2, Int.le_refl _, Int.le_refl _, fun j s hj => ?_, fun j s hj => ?_, fun j s hj => ?_, fun j s p hj hp => ?_, fun j L t hj hL => ht L (List.mem_of_getElem? hj) t hL, by simp, by simp, by simp, by simp, by simp, by simp, by simp, by simp, by simp, ⟨Int.le_refl _, by simp [Never]⟩, by simp, fun j L t hj hL => (ht L (List.mem_of_getElem? hj) t hL).1, by simp, by simp, by simp⟩
  · rw [hr j s hj]; simp
  · rw [hr j s hj]; exact ⟨by simp [Never], by simp [Never]⟩
  · rw [hr j s hj]; simp
  · rw [hr j s hj] at hp; simp at hp
end Go.Proofs.Ytdommbaljchofaa
