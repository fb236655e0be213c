/-
  The statements' world, no program in sight: a round begins; a message, an acknowledgement come.
-/
import Derived.Test.YtdommbaljchofaaYA
namespace Go.Proofs.Ytdommbaljchofaa
set_option linter.unusedVariables false

theorem mem_starts {n : Nat} {rd : Int} {p : Pk} : p ∈ starts n rd ↔ ∃ i, i < n ∧ p = ⟨2, 0, (i : Int), rd, 0⟩ := by
  simp only [starts, List.mem_map, List.mem_range]
  exact ⟨fun ⟨i, h, e⟩ => ⟨i, h, e.symm⟩, fun ⟨i, h, e⟩ => ⟨i, h, e.symm⟩⟩
theorem starts_apart (n : Nat) (rd : Int) : (starts n rd).Pairwise Apart := by
  unfold starts
  rw [List.pairwise_map]
  refine List.nodup_range.imp (fun {a b} hab => ⟨fun e => by simp at e, fun _ _ e => hab (by simp only at e; omega), fun e => by simp at e⟩)

theorem Inv.begin {P : PS} (h : Inv P) (hr : P.run = false) : Inv { P with rd := P.rd + 1, told := fun _ => false, run := true, least := Never, l := P.l ++ starts P.ws.length (P.rd + 1) } := by
  have hrd : ∀ (j : Nat) (s : WS), P.ws[j]? = some s → s.rd = P.rd := by
    intro j s hj
    rcases (h.rdj j s hj).2 with e | ⟨e, _⟩
    · exact e
    · rw [hr] at e; cases e
  have hno2 : ∀ p ∈ P.l, p.kind ≠ 2 := fun p hp e => by have := (h.st p hp e).1; rw [hr] at this; cases this
  have hno3 : ∀ p ∈ P.l, p.kind ≠ 3 := fun p hp e => by have := (h.rp p hp e).1; rw [hr] at this; cases this
  have hr0 := h.r0
  refine ⟨h.lw, h.lo, h.n1, h.n8, by show 0 ≤ P.rd + 1; omega, h.s0, ?_, h.lot, h.nd, h.mt, h.opt, ?_, ?_, ?_, ?_, ?_, ?_, ?_, ?_, ?_, h.tn, fun _ => ⟨by simp [Never], by simp⟩, h.tgo, ?_, ?_, ?_⟩
  · intro j s hj
    have e := hrd j s hj
    exact ⟨(h.rdj j s hj).1, .inr ⟨rfl, by simp only; omega⟩⟩
  · intro p hp
    simp only [List.mem_append] at hp
    rcases hp with hp | hp
    · exact h.kinds p hp
    · obtain ⟨i, _, rfl⟩ := mem_starts.1 hp
      exact .inr (.inr (.inl rfl))
  · intro p hp hk
    simp only [List.mem_append] at hp
    rcases hp with hp | hp
    · exact h.msg p hp hk
    · obtain ⟨i, _, rfl⟩ := mem_starts.1 hp
      simp at hk
  · intro p hp hk
    simp only [List.mem_append] at hp
    rcases hp with hp | hp
    · obtain ⟨d, s, a, h1, h2, h3, h4, h5⟩ := h.ack p hp hk
      exact ⟨d, s, a, h1, h2, h3, h4, by simp only; omega⟩
    · obtain ⟨i, _, rfl⟩ := mem_starts.1 hp
      simp at hk
  · intro p hp hk
    simp only [List.mem_append] at hp
    rcases hp with hp | hp
    · exact absurd hk (hno2 p hp)
    · obtain ⟨i, hi, rfl⟩ := mem_starts.1 hp
      obtain ⟨s, hs⟩ : ∃ s, P.ws[i]? = some s := ⟨_, List.getElem?_eq_getElem hi⟩
      exact ⟨rfl, rfl, i, s, rfl, hs, by have := hrd i s hs; simp only; omega, rfl⟩
  · intro p hp hk
    simp only [List.mem_append] at hp
    rcases hp with hp | hp
    · exact absurd hk (hno3 p hp)
    · obtain ⟨i, hi, rfl⟩ := mem_starts.1 hp
      simp at hk
  · refine List.pairwise_append.2 ⟨h.uniq, starts_apart _ _, fun p hp q hq => ?_⟩
    obtain ⟨i, hi, rfl⟩ := mem_starts.1 hq
    exact ⟨fun _ e => by simp at e, fun e => absurd e (hno2 p hp), fun e => absurd e (hno3 p hp)⟩
  · intro _ d s _ e
    cases e
  · intro _
    exact ⟨0, by have := h.n1; show 0 < P.n; omega, rfl⟩
  · intro _ d s hd
    have hlt := (List.getElem?_eq_some_iff.1 hd).1
    refine .inr (.inl ⟨by have := hrd d s hd; simp only; omega, ⟨2, 0, (d : Int), P.rd + 1, 0⟩, ?_, rfl, rfl⟩)
    simp only [List.mem_append]
    exact .inr (mem_starts.2 ⟨d, hlt, rfl⟩)
  · intro p hp hk
    simp only [List.mem_append] at hp
    rcases hp with hp | hp
    · exact h.tgm p hp hk
    · obtain ⟨i, _, rfl⟩ := mem_starts.1 hp
      simp at hk
  · intro _ j s L t h1 h2
    have := hrd j s h1
    simp only at h2
    omega
  · intro _ p hp hk f s _ h2 h3
    have := hrd f s h2
    simp only at h3
    omega

theorem Inv.recv {P : PS} {p : Pk} {rest : List Pk} {d : Nat} {k : WS} {L : List Int} (h : Inv { P with l := p :: rest }) (hk : p.kind = 0) (hd : p.dst = (d : Int)) (hw : P.ws[d]? = some k) (ho : P.op[d]? = some L) :
    Inv { P with l := rest ++ [⟨1, (d : Int), p.fr, p.no, k.rd⟩], op := P.op.set d (L ++ [p.tm]) } := by
  obtain ⟨f, d', s, hf, _, _, hs, hM, ht0, ht1⟩ := h.msg p (by simp) hk
  have hkr := h.rdj d k hw
  simp only at hs hkr
  have hcov : ∀ x, Cov { P with l := p :: rest } x → Cov { P with l := rest ++ [⟨1, (d : Int), p.fr, p.no, k.rd⟩], op := P.op.set d (L ++ [p.tm]) } x := by
    intro x hx
    have hm : ∀ q, q ∈ p :: rest → q.kind ≠ 0 → q ∈ rest ++ [⟨1, (d : Int), p.fr, p.no, k.rd⟩] := by
      intro q hq hne
      simp only [List.mem_cons] at hq
      rcases hq with rfl | hq
      · exact absurd hk hne
      · simp [hq]
    rcases hx with h | ⟨q, hq, hk', ht⟩ | ⟨j, r, hj, hr, h | ⟨q, hq, hk', hd, ht, a, ha, hx⟩⟩
    · exact .inl h
    · exact .inr (.inl ⟨q, hm q hq (by omega), hk', ht⟩)
    · exact .inr (.inr ⟨j, r, hj, hr, .inl h⟩)
    · exact .inr (.inr ⟨j, r, hj, hr, .inr ⟨q, hm q hq (by omega), hk', hd, ht, a, ha, hx⟩⟩)
  have hin : ∀ q ∈ rest, q ∈ p :: rest := fun q hq => by simp [hq]
  have key : ∀ (j : Nat) (K : List Int) t, (P.op.set d (L ++ [p.tm]))[j]? = some K → t ∈ K → (∃ K', P.op[j]? = some K' ∧ t ∈ K') ∨ (j = d ∧ t = p.tm) := by
    intro j K t hj ht
    rcases (set_get ho).1 hj with ⟨rfl, rfl⟩ | ⟨_, hj'⟩
    · simp only [List.mem_append, List.mem_singleton] at ht
      rcases ht with ht | ht
      · exact .inl ⟨L, ho, ht⟩
      · exact .inr ⟨rfl, ht⟩
    · exact .inl ⟨K, hj', ht⟩
  refine ⟨h.lw, by simpa using h.lo, h.n1, h.n8, h.r0, h.s0, h.rdj, h.lot, h.nd, h.mt, fun j K t hj ht => ?_, ?_, ?_, ?_, ?_, ?_, ?_, h.td, h.nt, ?_, h.tn, h.ln, fun j K t hj ht => ?_, ?_, fun hr j s' K t h1 h2 h3 h4 => ?_, ?_⟩
  · rcases key j K t hj ht with ⟨K', h1, h2⟩ | ⟨_, rfl⟩
    · exact h.opt j K' t h1 h2
    · exact ⟨ht0, ht1⟩
  · intro q hq
    simp only [List.mem_append, List.mem_singleton] at hq
    rcases hq with hq | rfl
    · exact h.kinds q (hin q hq)
    · exact .inr (.inl rfl)
  · intro q hq hkq
    simp only [List.mem_append, List.mem_singleton] at hq
    rcases hq with hq | rfl
    · exact h.msg q (hin q hq) hkq
    · simp at hkq
  · intro q hq hkq
    simp only [List.mem_append, List.mem_singleton] at hq
    rcases hq with hq | rfl
    · exact h.ack q (hin q hq) hkq
    · exact ⟨f, s, p.tm, hf, hs, hM, hkr.1, by rcases hkr.2 with e | ⟨_, e⟩ <;> simp only <;> omega⟩
  · intro q hq hkq
    simp only [List.mem_append, List.mem_singleton] at hq
    rcases hq with hq | rfl
    · exact h.st q (hin q hq) hkq
    · simp at hkq
  · intro q hq hkq
    simp only [List.mem_append, List.mem_singleton] at hq
    rcases hq with hq | rfl
    · exact h.rp q (hin q hq) hkq
    · simp at hkq
  · have hu := List.pairwise_cons.1 h.uniq
    refine List.pairwise_append.2 ⟨hu.2, by simp, fun q hq q' hq' => ?_⟩
    simp only [List.mem_singleton] at hq'
    subst hq'
    refine ⟨fun hkq _ => ?_, fun _ e => ?_, fun _ e => ?_⟩
    · have := (hu.1 q hq).1 (by omega) hkq
      exact fun e => this e.symm
    · simp at e
    · simp at e
  · intro hr d' r hd'
    rcases h.live hr d' r hd' with h1 | ⟨h1, q, hq, h2⟩ | ⟨h1, q, hq, h2⟩
    · exact .inl h1
    · simp only [List.mem_cons] at hq
      rcases hq with rfl | hq
      · omega
      · exact .inr (.inl ⟨h1, q, by simp [hq], h2⟩)
    · simp only [List.mem_cons] at hq
      rcases hq with rfl | hq
      · omega
      · exact .inr (.inr ⟨h1, q, by simp [hq], h2⟩)
  · rcases key j K t hj ht with ⟨K', h1, h2⟩ | ⟨_, rfl⟩
    · exact h.tgo j K' t h1 h2
    · exact h.tgm p (by simp) hk
  · intro q hq hkq
    simp only [List.mem_append, List.mem_singleton] at hq
    rcases hq with hq | rfl
    · exact h.tgm q (hin q hq) hkq
    · simp at hkq
  · rcases key j K t h3 h4 with ⟨K', h5, h6⟩ | ⟨rfl, rfl⟩
    · exact hcov _ (h.cvo hr j s' K' t h1 h2 h5 h6)
    · simp only at h1 h2
      rw [hw] at h1
      injection h1 with h1
      subst h1
      rcases (h.rdj f s hs).2 with e | ⟨_, e⟩
      · exact hcov _ (h.cvm hr p (by simp) hk f s hf hs e)
      · simp only at e
        refine .inr (.inr ⟨f, s, hs, e, .inr ⟨⟨1, (j : Int), p.fr, p.no, k.rd⟩, by simp, rfl, hf, h2, p.tm, hM, Int.le_refl _⟩⟩)
  · intro hr q hq hkq f' s' h1 h2 h3
    simp only [List.mem_append, List.mem_singleton] at hq
    rcases hq with hq | rfl
    · exact hcov _ (h.cvm hr q (hin q hq) hkq f' s' h1 h2 h3)
    · simp at hkq
end Go.Proofs.Ytdommbaljchofaa
