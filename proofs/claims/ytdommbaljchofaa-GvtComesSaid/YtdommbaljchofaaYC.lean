/-
  The statements' world, no program in sight: an acknowledgement, a start, a report come.
-/
import Derived.Test.YtdommbaljchofaaYB
namespace Go.Proofs.Ytdommbaljchofaa
set_option linter.unusedVariables false

theorem Inv.ackCode {P : PS} {p : Pk} {d : Nat} {s : WS} (h : Inv P) (hp : p ∈ P.l) (hk : p.kind = 1) (hd : p.dst = (d : Int)) (hw : P.ws[d]? = some s) : ackedCode s.M s.rd p.no p.tm = 0 := by
  obtain ⟨d', s', a, h1, h2, h3, h4, h5⟩ := h.ack p hp hk
  have e : d' = d := by omega
  subst e
  rw [hw] at h2
  injection h2 with h2
  subst h2
  have hr := (h.rdj d' s hw).2
  simp only [ackedCode]
  rw [if_pos (any_mem.2 (List.mem_map_of_mem (f := (·.1)) h3)), if_neg]
  rcases hr with e | ⟨_, e⟩ <;> omega

theorem Inv.acked {P : PS} {p : Pk} {rest : List Pk} {d : Nat} {s : WS} (h : Inv { P with l := p :: rest }) (hk : p.kind = 1) (hd : p.dst = (d : Int)) (hw : P.ws[d]? = some s) :
    Inv { P with l := rest, ws := P.ws.set d ⟨s.rd, ackedLo s.M s.rd s.lo p.no p.tm, ackedM s.M s.rd p.no p.tm⟩ } := by
  have hcode := h.ackCode (by simp) hk hd hw
  obtain ⟨d', s', a, h1, h2, h3, h4, h5⟩ := h.ack p (by simp) hk
  have e : d' = d := by omega
  subst e
  simp only at h2
  rw [hw] at h2
  injection h2 with h2
  subst h2
  have hval : valOf s.M p.no = a := valOf_eq (h.nd d' s hw) h3
  have hMe : ackedM s.M s.rd p.no p.tm = s.M.filter (fun q => q.1 != p.no) := by simp [ackedM, hcode]
  have hLe : ackedLo s.M s.rd s.lo p.no p.tm = if s.rd < p.tm then min s.lo a else s.lo := by simp [ackedLo, hcode, hval]
  have hat := (h.mt d' s _ hw h3).2.2
  have hlt := h.lot d' s hw
  have hu := List.pairwise_cons.1 h.uniq
  rw [hMe, hLe]
  obtain ⟨lo', hlo'⟩ : ∃ lo', (if s.rd < p.tm then min s.lo a else s.lo) = lo' := ⟨_, rfl⟩
  rw [hlo']
  have hloT : IsTime lo' := by
    rw [← hlo']
    have h1 := hat.1
    have h2 := hat.2
    have h3 := hlt.1
    have h4 := hlt.2
    split
    · exact ⟨by simp only at h1; omega, by simp only at h2; omega⟩
    · exact hlt
  have hlole : lo' ≤ s.lo := by rw [← hlo']; split <;> omega
  have hin : ∀ q ∈ rest, q ∈ p :: rest := fun q hq => by simp [hq]
  have hg : ∀ (j : Nat) (r : WS), (P.ws.set d' ⟨s.rd, lo', s.M.filter (fun q => q.1 != p.no)⟩)[j]? = some r → ∃ r0 : WS, P.ws[j]? = some r0 ∧ r.rd = r0.rd ∧ (∀ q ∈ r.M, q ∈ r0.M) := by
    intro j r hj
    rcases (set_get hw).1 hj with ⟨rfl, rfl⟩ | ⟨_, hj'⟩
    · exact ⟨s, hw, rfl, fun q hq => (List.mem_filter.1 hq).1⟩
    · exact ⟨r, hj', rfl, fun q hq => hq⟩
  have hf : ∀ (j : Nat) (r0 : WS), P.ws[j]? = some r0 → ∃ r : WS, (P.ws.set d' ⟨s.rd, lo', s.M.filter (fun q => q.1 != p.no)⟩)[j]? = some r ∧ r.rd = r0.rd ∧ r.lo ≤ r0.lo ∧ (∀ q ∈ r0.M, q.1 ≠ p.no → q ∈ r.M) := by
    intro j r0 hj
    by_cases e : j = d'
    · subst e
      rw [hw] at hj
      injection hj with hj
      subst hj
      exact ⟨_, (set_get hw).2 (.inl ⟨rfl, rfl⟩), rfl, hlole, fun q hq hne => List.mem_filter.2 ⟨hq, by simpa using hne⟩⟩
    · exact ⟨r0, (set_get hw).2 (.inr ⟨e, hj⟩), rfl, Int.le_refl _, fun q hq _ => hq⟩
  have hne : ∀ q ∈ rest, q.kind ≤ 1 → q.no ≠ p.no := fun q hq hkq e => (hu.1 q hq).1 (by omega) hkq e.symm
  have hcov : ∀ x, Cov { P with l := p :: rest } x → Cov { P with l := rest, ws := P.ws.set d' ⟨s.rd, lo', s.M.filter (fun q => q.1 != p.no)⟩ } x := by
    intro x hx
    rcases hx with h | ⟨q, hq, hk', ht⟩ | ⟨j, r, hj, hr, hx⟩
    · exact .inl h
    · simp only [List.mem_cons] at hq
      rcases hq with rfl | hq
      · omega
      · exact .inr (.inl ⟨q, hq, hk', ht⟩)
    · obtain ⟨r', g1, g2, g3, g4⟩ := hf j r hj
      refine .inr (.inr ⟨j, r', g1, by rw [g2]; exact hr, ?_⟩)
      rcases hx with hx | ⟨q, hq, hk', hdq, htq, b, hb, hx⟩
      · exact .inl (by omega)
      · simp only [List.mem_cons] at hq
        rcases hq with rfl | hq
        · have e : j = d' := by omega
          subst e
          simp only at hj hr htq
          rw [hw] at hj
          injection hj with hj
          subst hj
          have e2 : b = a := Go.Proofs.Ytdommbaljchofaa.uniq (h.nd j s hw) hb h3
          have e3 := (set_get (b := (⟨s.rd, lo', s.M.filter (fun r => r.1 != q.no)⟩ : WS)) hw).2 (.inl ⟨rfl, rfl⟩)
          rw [e3] at g1
          injection g1 with g1
          subst g1
          refine .inl ?_
          show lo' ≤ x
          rw [← hlo', if_pos (by omega)]
          omega
        · exact .inr ⟨q, hq, hk', hdq, htq, b, g4 _ hb (hne q hq (by omega)), hx⟩
  refine ⟨by simpa using h.lw, h.lo, h.n1, h.n8, h.r0, h.s0, ?_, ?_, ?_, ?_, h.opt, fun q hq => h.kinds q (hin q hq), ?_, ?_, ?_, ?_, hu.2, ?_, h.nt, ?_, h.tn, h.ln, h.tgo, fun q hq => h.tgm q (hin q hq), ?_, ?_⟩
  · intro j r hj
    obtain ⟨r0, g1, g2, _⟩ := hg j r hj
    rw [g2]
    exact h.rdj j r0 g1
  · intro j r hj
    rcases (set_get hw).1 hj with ⟨rfl, rfl⟩ | ⟨_, hj'⟩
    · exact hloT
    · exact h.lot j r hj'
  · intro j r hj
    rcases (set_get hw).1 hj with ⟨rfl, rfl⟩ | ⟨_, hj'⟩
    · exact (h.nd _ s hw).sublist List.filter_sublist
    · exact h.nd j r hj'
  · intro j r q hj hq
    obtain ⟨r0, g1, _, g3⟩ := hg j r hj
    exact h.mt j r0 q g1 (g3 q hq)
  · intro q hq hkq
    obtain ⟨f, d2, r, a1, a2, a3, a4, a5, a6⟩ := h.msg q (hin q hq) hkq
    obtain ⟨r', g1, _, _, g4⟩ := hf f r a4
    exact ⟨f, d2, r', a1, a2, a3, g1, g4 _ a5 (hne q hq (by omega)), a6⟩
  · intro q hq hkq
    obtain ⟨d2, r, b, a1, a2, a3, a4⟩ := h.ack q (hin q hq) hkq
    obtain ⟨r', g1, _, _, g4⟩ := hf d2 r a2
    exact ⟨d2, r', b, a1, g1, g4 _ a3 (hne q hq (by omega)), a4⟩
  · intro q hq hkq
    obtain ⟨a1, a2, d2, r, a3, a4, a5, a6⟩ := h.st q (hin q hq) hkq
    obtain ⟨r', g1, g2, _, _⟩ := hf d2 r a4
    exact ⟨a1, a2, d2, r', a3, g1, by rw [g2]; exact a5, a6⟩
  · intro q hq hkq
    obtain ⟨a1, a2, a3, d2, r, a4, a5, a6, a7⟩ := h.rp q (hin q hq) hkq
    obtain ⟨r', g1, g2, _, _⟩ := hf d2 r a5
    exact ⟨a1, a2, a3, d2, r', a4, g1, by rw [g2]; exact a6, a7⟩
  · intro hr d2 r hd2 htd
    obtain ⟨r0, g1, g2, _⟩ := hg d2 r hd2
    rw [g2]
    exact h.td hr d2 r0 g1 htd
  · intro hr d2 r hd2
    obtain ⟨r0, g1, g2, _⟩ := hg d2 r hd2
    rcases h.live hr d2 r0 g1 with a1 | ⟨a1, q, hq, a2⟩ | ⟨a1, q, hq, a2⟩
    · exact .inl a1
    · simp only [List.mem_cons] at hq
      rcases hq with rfl | hq
      · omega
      · exact .inr (.inl ⟨by rw [g2]; exact a1, q, hq, a2⟩)
    · simp only [List.mem_cons] at hq
      rcases hq with rfl | hq
      · omega
      · exact .inr (.inr ⟨by rw [g2]; exact a1, q, hq, a2⟩)
  · intro hr j r K t a1 a2 a3 a4
    obtain ⟨r0, g1, g2, _⟩ := hg j r a1
    exact hcov _ (h.cvo hr j r0 K t g1 (by rw [← g2]; exact a2) a3 a4)
  · intro hr q hq hkq f r a1 a2 a3
    obtain ⟨r0, g1, g2, _⟩ := hg f r a2
    exact hcov _ (h.cvm hr q (hin q hq) hkq f r0 a1 g1 (by rw [← g2]; exact a3))

theorem Inv.startCode {P : PS} {p : Pk} {d : Nat} {s : WS} {L : List Int} (h : Inv P) (hp : p ∈ P.l) (hk : p.kind = 2) (hd : p.dst = (d : Int)) (hw : P.ws[d]? = some s) (ho : P.op[d]? = some L) : startCode s.rd p.no L = 0 := by
  obtain ⟨_, h2, d', s', h3, h4, h5, _⟩ := h.st p hp hk
  have e : d' = d := by omega
  subst e
  rw [hw] at h4
  injection h4 with h4
  subst h4
  unfold Go.Proofs.Ytdommbaljchofaa.startCode
  rw [if_pos (by omega), if_pos]
  intro x hx
  have := h.opt d' L x ho hx
  exact ⟨this.1, by omega⟩

theorem Inv.started {P : PS} {p : Pk} {rest : List Pk} {d : Nat} {s : WS} {L : List Int} (h : Inv { P with l := p :: rest }) (hk : p.kind = 2) (hd : p.dst = (d : Int)) (hw : P.ws[d]? = some s) (ho : P.op[d]? = some L) :
    Inv { P with l := rest ++ [⟨3, (d : Int), 0, p.no, startRes s.M s.rd s.lo p.no L⟩], ws := P.ws.set d ⟨startRd s.rd p.no L, startLo s.rd s.lo p.no L, s.M⟩ } := by
  have hcode := h.startCode (by simp) hk hd hw ho
  obtain ⟨hrun, h2, d', s', h3, h4, h5, htold⟩ := h.st p (by simp) hk
  have e : d' = d := by omega
  subst e
  simp only at h2 h4 h5 hrun htold
  rw [hw] at h4
  injection h4 with h4
  subst h4
  have e1 : startRd s.rd p.no L = P.rd := by simp only [startRd]; rw [if_pos hcode]; exact h2
  have e2 : startLo s.rd s.lo p.no L = Never := by simp only [startLo]; rw [if_pos hcode]
  have e3 : startRes s.M s.rd s.lo p.no L = min (L.foldl min (leastOf (s.M.map (·.2)))) s.lo := by simp only [startRes]; rw [if_pos hcode]
  rw [e1, e2]
  obtain ⟨v, hv⟩ : ∃ v, startRes s.M s.rd s.lo p.no L = v := ⟨_, rfl⟩
  rw [hv]
  rw [e3] at hv
  have hfl := foldl_min_le L (leastOf (s.M.map (·.2)))
  have hloT := h.lot d' s hw
  have hvlo : v ≤ s.lo := by omega
  have hvL : ∀ t ∈ L, v ≤ t := fun t ht => by have := hfl.2.1 t ht; omega
  have hvM : ∀ q ∈ s.M, v ≤ q.2 := fun q hq => by
    have h1 := leastOf_mem (List.mem_map_of_mem (f := (·.2)) hq)
    have := hfl.1
    omega
  have hv0 : 0 ≤ v := by
    have hl0 : 0 ≤ leastOf (s.M.map (·.2)) := by
      rcases leastOf_is (s.M.map (·.2)) with e | e
      · rw [e]; simp [Never]
      · obtain ⟨q, hq, hq2⟩ := List.mem_map.1 e
        have := (h.mt d' s q hw hq).2.2.1
        omega
    have h1 := hloT.1
    rcases hfl.2.2 with e | e
    · omega
    · have := (h.opt d' L _ ho e).1
      omega
  have hvT : IsTime v := ⟨hv0, by have := hloT.2; omega⟩
  have hu := List.pairwise_cons.1 h.uniq
  have hin : ∀ q ∈ rest, q ∈ p :: rest := fun q hq => by simp [hq]
  have hg : ∀ (j : Nat) (r : WS), (P.ws.set d' ⟨P.rd, Never, s.M⟩)[j]? = some r → (j = d' ∧ r = ⟨P.rd, Never, s.M⟩) ∨ (j ≠ d' ∧ P.ws[j]? = some r) := fun j r hj => (set_get hw).1 hj
  have hf : ∀ (j : Nat) (r : WS), j ≠ d' → P.ws[j]? = some r → (P.ws.set d' ⟨P.rd, Never, s.M⟩)[j]? = some r := fun j r hne hj => (set_get hw).2 (.inr ⟨hne, hj⟩)
  have hd0 : (P.ws.set d' ⟨P.rd, Never, s.M⟩)[d']? = some ⟨P.rd, Never, s.M⟩ := (set_get hw).2 (.inl ⟨rfl, rfl⟩)
  have hM : ∀ (j : Nat) (r0 : WS), P.ws[j]? = some r0 → ∃ r : WS, (P.ws.set d' ⟨P.rd, Never, s.M⟩)[j]? = some r ∧ r.M = r0.M := by
    intro j r0 hj
    by_cases e : j = d'
    · subst e
      rw [hw] at hj
      injection hj with hj
      subst hj
      exact ⟨_, hd0, rfl⟩
    · exact ⟨r0, hf j r0 e hj, rfl⟩
  have hcov : ∀ x, Cov { P with l := p :: rest } x ∨ v ≤ x → Cov { P with l := rest ++ [⟨3, (d' : Int), 0, p.no, v⟩], ws := P.ws.set d' ⟨P.rd, Never, s.M⟩ } x := by
    intro x hx
    have hnew : v ≤ x → Cov { P with l := rest ++ [⟨3, (d' : Int), 0, p.no, v⟩], ws := P.ws.set d' ⟨P.rd, Never, s.M⟩ } x := fun h => .inr (.inl ⟨⟨3, (d' : Int), 0, p.no, v⟩, by simp, rfl, h⟩)
    rcases hx with hx | hx
    · rcases hx with h | ⟨q, hq, hk', ht⟩ | ⟨j, r, hj, hr, hx⟩
      · exact .inl h
      · simp only [List.mem_cons] at hq
        rcases hq with rfl | hq
        · omega
        · exact .inr (.inl ⟨q, by simp [hq], hk', ht⟩)
      · by_cases e : j = d'
        · subst e
          simp only at hj
          rw [hw] at hj
          injection hj with hj
          subst hj
          rcases hx with hx | ⟨q, hq, hk', hdq, htq, b, hb, hx⟩
          · exact hnew (by omega)
          · have := hvM _ hb
            exact hnew (by simp only at this; omega)
        · refine .inr (.inr ⟨j, r, hf j r e hj, hr, ?_⟩)
          rcases hx with hx | ⟨q, hq, hk', hdq, htq, b, hb, hx⟩
          · exact .inl hx
          · simp only [List.mem_cons] at hq
            rcases hq with rfl | hq
            · omega
            · exact .inr ⟨q, by simp [hq], hk', hdq, htq, b, hb, hx⟩
    · exact hnew hx
  have hr0 := h.r0
  refine ⟨by simpa using h.lw, h.lo, h.n1, h.n8, h.r0, h.s0, ?_, ?_, ?_, ?_, h.opt, ?_, ?_, ?_, ?_, ?_, ?_, ?_, h.nt, ?_, h.tn, h.ln, h.tgo, ?_, ?_, ?_⟩
  · intro j r hj
    rcases hg j r hj with ⟨rfl, rfl⟩ | ⟨_, hj'⟩
    · exact ⟨hr0, .inl rfl⟩
    · exact h.rdj j r hj'
  · intro j r hj
    rcases hg j r hj with ⟨rfl, rfl⟩ | ⟨_, hj'⟩
    · exact ⟨by simp [Never], by simp [Never]⟩
    · exact h.lot j r hj'
  · intro j r hj
    rcases hg j r hj with ⟨rfl, rfl⟩ | ⟨_, hj'⟩
    · exact h.nd _ s hw
    · exact h.nd j r hj'
  · intro j r q hj hq
    rcases hg j r hj with ⟨rfl, rfl⟩ | ⟨_, hj'⟩
    · exact h.mt _ s q hw hq
    · exact h.mt j r q hj' hq
  · intro q hq
    simp only [List.mem_append, List.mem_singleton] at hq
    rcases hq with hq | rfl
    · exact h.kinds q (hin q hq)
    · exact .inr (.inr (.inr rfl))
  · intro q hq hkq
    simp only [List.mem_append, List.mem_singleton] at hq
    rcases hq with hq | rfl
    · obtain ⟨f, d2, r, a1, a2, a3, a4, a5, a6⟩ := h.msg q (hin q hq) hkq
      obtain ⟨r', g1, g2⟩ := hM f r a4
      exact ⟨f, d2, r', a1, a2, a3, g1, by rw [g2]; exact a5, a6⟩
    · simp at hkq
  · intro q hq hkq
    simp only [List.mem_append, List.mem_singleton] at hq
    rcases hq with hq | rfl
    · obtain ⟨d2, r, b, a1, a2, a3, a4⟩ := h.ack q (hin q hq) hkq
      obtain ⟨r', g1, g2⟩ := hM d2 r a2
      exact ⟨d2, r', b, a1, g1, by rw [g2]; exact a3, a4⟩
    · simp at hkq
  · intro q hq hkq
    simp only [List.mem_append, List.mem_singleton] at hq
    rcases hq with hq | rfl
    · obtain ⟨a1, a2, d2, r, a3, a4, a5, a6⟩ := h.st q (hin q hq) hkq
      have hne : d2 ≠ d' := fun e => (hu.1 q hq).2.1 hk hkq (by rw [a3, hd, e])
      exact ⟨a1, a2, d2, r, a3, hf d2 r hne a4, a5, a6⟩
    · simp at hkq
  · intro q hq hkq
    simp only [List.mem_append, List.mem_singleton] at hq
    rcases hq with hq | rfl
    · obtain ⟨a1, a2, a3, d2, r, a4, a5, a6, a7⟩ := h.rp q (hin q hq) hkq
      have hne : d2 ≠ d' := fun e => by
        subst e
        simp only at a5 a6
        rw [hw] at a5
        injection a5 with a5
        subst a5
        omega
      exact ⟨a1, a2, a3, d2, r, a4, hf d2 r hne a5, a6, a7⟩
    · exact ⟨hrun, h2, hvT, d', _, rfl, hd0, rfl, htold⟩
  · refine List.pairwise_append.2 ⟨hu.2, by simp, fun q hq q' hq' => ?_⟩
    simp only [List.mem_singleton] at hq'
    subst hq'
    refine ⟨fun _ e => ?_, fun _ e => ?_, fun hkq _ e => ?_⟩
    · simp at e
    · simp at e
    · obtain ⟨_, _, _, d2, r, a4, a5, a6, _⟩ := h.rp q (hin q hq) hkq
      have : d2 = d' := by simp only at e; omega
      subst this
      simp only at a5 a6
      rw [hw] at a5
      injection a5 with a5
      subst a5
      omega
  · intro hr d2 r hd2 htd
    rcases hg d2 r hd2 with ⟨rfl, rfl⟩ | ⟨_, hj'⟩
    · rfl
    · exact h.td hr d2 r hj' htd
  · intro hr d2 r hd2
    rcases hg d2 r hd2 with ⟨rfl, rfl⟩ | ⟨hne, hj'⟩
    · exact .inr (.inr ⟨rfl, ⟨3, (d2 : Int), 0, p.no, v⟩, by simp, rfl, rfl⟩)
    · rcases h.live hr d2 r hj' with a1 | ⟨a1, q, hq, a2⟩ | ⟨a1, q, hq, a2⟩
      · exact .inl a1
      · simp only [List.mem_cons] at hq
        rcases hq with rfl | hq
        · exact absurd (by have := a2.2; omega) hne
        · exact .inr (.inl ⟨a1, q, by simp [hq], a2⟩)
      · simp only [List.mem_cons] at hq
        rcases hq with rfl | hq
        · omega
        · exact .inr (.inr ⟨a1, q, by simp [hq], a2⟩)
  · intro q hq hkq
    simp only [List.mem_append, List.mem_singleton] at hq
    rcases hq with hq | rfl
    · exact h.tgm q (hin q hq) hkq
    · simp at hkq
  · intro hr j r K t a1 a2 a3 a4
    rcases hg j r a1 with ⟨rfl, rfl⟩ | ⟨_, hj'⟩
    · simp only at a3
      rw [ho] at a3
      injection a3 with a3
      subst a3
      exact hcov _ (.inr (hvL t a4))
    · exact hcov _ (.inl (h.cvo hr j r K t hj' a2 a3 a4))
  · intro hr q hq hkq f r a1 a2 a3
    simp only [List.mem_append, List.mem_singleton] at hq
    rcases hq with hq | rfl
    · rcases hg f r a2 with ⟨rfl, rfl⟩ | ⟨_, hj'⟩
      · obtain ⟨f', d2, r', b1, b2, b3, b4, b5, b6⟩ := h.msg q (hin q hq) hkq
        have e : f' = f := by omega
        subst e
        simp only at b4
        rw [hw] at b4
        injection b4 with b4
        subst b4
        exact hcov _ (.inr (hvM _ b5))
      · exact hcov _ (.inl (h.cvm hr q (hin q hq) hkq f r a1 hj' a3))
    · simp at hkq
end Go.Proofs.Ytdommbaljchofaa
