/-
  The statements' world, no program in sight: what holds of it at every time.
-/
import Derived.Test.YtdommbaljchofaaXF
namespace Go.Proofs.Ytdommbaljchofaa
set_option linter.unusedVariables false

structure PS where
  ws : List WS
  op : List (List Int)
  l : List Pk
  n : Nat
  rd : Int
  told : Nat → Bool
  run : Bool
  least : Int
  time : Int
  sent : Int
/-- What lies at or under x, on the round's account. -/
def Cov (P : PS) (x : Int) : Prop :=
  P.least ≤ x ∨ (∃ p ∈ P.l, p.kind = 3 ∧ p.tm ≤ x) ∨
  ∃ (j : Nat) (s : WS), P.ws[j]? = some s ∧ s.rd + 1 = P.rd ∧ (s.lo ≤ x ∨ ∃ p ∈ P.l, p.kind = 1 ∧ p.dst = (j : Int) ∧ p.tm = P.rd ∧ ∃ a, (p.no, a) ∈ s.M ∧ a ≤ x)
def Apart (p q : Pk) : Prop := (p.kind ≤ 1 → q.kind ≤ 1 → p.no ≠ q.no) ∧ (p.kind = 2 → q.kind = 2 → p.dst ≠ q.dst) ∧ (p.kind = 3 → q.kind = 3 → p.fr ≠ q.fr)
theorem Apart.symm {p q : Pk} (h : Apart p q) : Apart q p := ⟨fun a b e => h.1 b a e.symm, fun a b e => h.2.1 b a e.symm, fun a b e => h.2.2 b a e.symm⟩
structure Inv (P : PS) : Prop where
  lw : P.ws.length = P.n
  lo : P.op.length = P.n
  n1 : 1 ≤ P.n
  n8 : P.n ≤ 8
  r0 : 0 ≤ P.rd
  s0 : 0 ≤ P.sent
  rdj : ∀ (j : Nat) (s : WS), P.ws[j]? = some s → 0 ≤ s.rd ∧ (s.rd = P.rd ∨ (P.run = true ∧ s.rd + 1 = P.rd))
  lot : ∀ (j : Nat) (s : WS), P.ws[j]? = some s → IsTime s.lo
  nd : ∀ (j : Nat) (s : WS), P.ws[j]? = some s → s.M.Pairwise (fun a b => a.1 ≠ b.1)
  mt : ∀ (j : Nat) (s : WS) (p : Int × Int), P.ws[j]? = some s → p ∈ s.M → 0 ≤ p.1 ∧ p.1 < P.sent ∧ IsTime p.2
  opt : ∀ (j : Nat) (L : List Int) t, P.op[j]? = some L → t ∈ L → 0 ≤ t ∧ t ≤ 1073741824
  kinds : ∀ p ∈ P.l, p.kind = 0 ∨ p.kind = 1 ∨ p.kind = 2 ∨ p.kind = 3
  msg : ∀ p ∈ P.l, p.kind = 0 → ∃ (f d : Nat) (s : WS), p.fr = (f : Int) ∧ p.dst = (d : Int) ∧ d < P.n ∧ P.ws[f]? = some s ∧ (p.no, p.tm) ∈ s.M ∧ 0 ≤ p.tm ∧ p.tm ≤ 1073741824
  ack : ∀ p ∈ P.l, p.kind = 1 → ∃ (d : Nat) (s : WS) (a : Int), p.dst = (d : Int) ∧ P.ws[d]? = some s ∧ (p.no, a) ∈ s.M ∧ 0 ≤ p.tm ∧ p.tm ≤ P.rd
  st : ∀ p ∈ P.l, p.kind = 2 → P.run = true ∧ p.no = P.rd ∧ ∃ (d : Nat) (s : WS), p.dst = (d : Int) ∧ P.ws[d]? = some s ∧ s.rd + 1 = P.rd ∧ P.told d = false
  rp : ∀ p ∈ P.l, p.kind = 3 → P.run = true ∧ p.no = P.rd ∧ IsTime p.tm ∧ ∃ (d : Nat) (s : WS), p.fr = (d : Int) ∧ P.ws[d]? = some s ∧ s.rd = P.rd ∧ P.told d = false
  uniq : P.l.Pairwise Apart
  td : P.run = true → ∀ (d : Nat) (s : WS), P.ws[d]? = some s → P.told d = true → s.rd = P.rd
  nt : P.run = true → ∃ d, d < P.n ∧ P.told d = false
  live : P.run = true → ∀ (d : Nat) (s : WS), P.ws[d]? = some s → P.told d = true ∨ (s.rd + 1 = P.rd ∧ ∃ p ∈ P.l, p.kind = 2 ∧ p.dst = (d : Int)) ∨ (s.rd = P.rd ∧ ∃ p ∈ P.l, p.kind = 3 ∧ p.fr = (d : Int))
  tn : 0 ≤ P.time ∧ P.time ≤ Never
  ln : P.run = true → 0 ≤ P.least ∧ P.least ≤ Never
  tgo : ∀ (j : Nat) (L : List Int) t, P.op[j]? = some L → t ∈ L → P.time ≤ t
  tgm : ∀ p ∈ P.l, p.kind = 0 → P.time ≤ p.tm
  cvo : P.run = true → ∀ (j : Nat) (s : WS) (L : List Int) t, P.ws[j]? = some s → s.rd = P.rd → P.op[j]? = some L → t ∈ L → Cov P t
  cvm : P.run = true → ∀ p ∈ P.l, p.kind = 0 → ∀ (f : Nat) (s : WS), p.fr = (f : Int) → P.ws[f]? = some s → s.rd = P.rd → Cov P p.tm

theorem Cov.up {P : PS} {x y : Int} (h : Cov P x) (hxy : x ≤ y) : Cov P y := by
  rcases h with h | ⟨p, hp, hk, ht⟩ | ⟨j, s, hj, hr, h | ⟨p, hp, hk, hd, ht, a, ha, hx⟩⟩
  · exact .inl (by omega)
  · exact .inr (.inl ⟨p, hp, hk, by omega⟩)
  · exact .inr (.inr ⟨j, s, hj, hr, .inl (by omega)⟩)
  · exact .inr (.inr ⟨j, s, hj, hr, .inr ⟨p, hp, hk, hd, ht, a, ha, by omega⟩⟩)

theorem set_get {α : Type} {l : List α} {i j : Nat} {a b c : α} (hi : l[i]? = some a) : (l.set i b)[j]? = some c ↔ (j = i ∧ c = b) ∨ (j ≠ i ∧ l[j]? = some c) := by
  have hlt := (List.getElem?_eq_some_iff.1 hi).1
  by_cases e : j = i
  · subst e
    rw [List.getElem?_set_self hlt]
    simp only [Option.some.injEq, true_and, ne_eq, not_true, false_and, or_false]
    exact eq_comm
  · rw [List.getElem?_set_ne (fun h => e h.symm)]
    simp [e]

/-- What is on its way, in another order. -/
theorem Inv.perm {P : PS} {l' : List Pk} (h : Inv P) (hp : P.l.Perm l') : Inv { P with l := l' } := by
  have hm : ∀ p, p ∈ l' → p ∈ P.l := fun p hq => hp.symm.subset hq
  have hm2 : ∀ p, p ∈ P.l → p ∈ l' := fun p hq => hp.subset hq
  have hcov : ∀ x, Cov P x → Cov { P with l := l' } x := by
    intro x hx
    rcases hx with h | ⟨p, hp, hk, ht⟩ | ⟨j, s, hj, hr, h | ⟨p, hp, hk, hd, ht, a, ha, hx⟩⟩
    · exact .inl h
    · exact .inr (.inl ⟨p, hm2 p hp, hk, ht⟩)
    · exact .inr (.inr ⟨j, s, hj, hr, .inl h⟩)
    · exact .inr (.inr ⟨j, s, hj, hr, .inr ⟨p, hm2 p hp, hk, hd, ht, a, ha, hx⟩⟩)
  refine ⟨h.lw, h.lo, h.n1, h.n8, h.r0, h.s0, h.rdj, h.lot, h.nd, h.mt, h.opt, fun p hq => h.kinds p (hm p hq), fun p hq => h.msg p (hm p hq), fun p hq => h.ack p (hm p hq), fun p hq => h.st p (hm p hq), fun p hq => h.rp p (hm p hq), ?_, h.td, h.nt, ?_, h.tn, h.ln, h.tgo, fun p hq => h.tgm p (hm p hq), fun hr j s L t h1 h2 h3 h4 => hcov _ (h.cvo hr j s L t h1 h2 h3 h4), fun hr p hq hk f s h1 h2 h3 => hcov _ (h.cvm hr p (hm p hq) hk f s h1 h2 h3)⟩
  · exact (hp.pairwise_iff (fun {a b} => Apart.symm)).1 h.uniq
  · intro hr d s hd
    rcases h.live hr d s hd with h1 | ⟨h1, p, hq, h2⟩ | ⟨h1, p, hq, h2⟩
    · exact .inl h1
    · exact .inr (.inl ⟨h1, p, hm2 p hq, h2⟩)
    · exact .inr (.inr ⟨h1, p, hm2 p hq, h2⟩)

/-- An open time is taken away. -/
theorem Inv.drop {P : PS} (h : Inv P) {i : Nat} {L L' : List Int} (hi : P.op[i]? = some L) (hs : ∀ t ∈ L', t ∈ L) : Inv { P with op := P.op.set i L' } := by
  have key : ∀ (j : Nat) (K : List Int) t, (P.op.set i L')[j]? = some K → t ∈ K → ∃ K', P.op[j]? = some K' ∧ t ∈ K' := by
    intro j K t hj ht
    rcases (set_get hi).1 hj with ⟨rfl, rfl⟩ | ⟨_, hj'⟩
    · exact ⟨L, hi, hs t ht⟩
    · exact ⟨K, hj', ht⟩
  refine ⟨h.lw, by simpa using h.lo, h.n1, h.n8, h.r0, h.s0, h.rdj, h.lot, h.nd, h.mt, fun j K t hj ht => ?_, h.kinds, h.msg, h.ack, h.st, h.rp, h.uniq, h.td, h.nt, h.live, h.tn, h.ln, fun j K t hj ht => ?_, h.tgm, fun hr j s K t h1 h2 h3 h4 => ?_, h.cvm⟩
  · obtain ⟨K', h1, h2⟩ := key j K t hj ht
    exact h.opt j K' t h1 h2
  · obtain ⟨K', h1, h2⟩ := key j K t hj ht
    exact h.tgo j K' t h1 h2
  · obtain ⟨K', h5, h6⟩ := key j K t h3 h4
    exact h.cvo hr j s K' t h1 h2 h5 h6

/-- A worker sends a message, of a time of its that is open, or later. -/
theorem Inv.send {P : PS} (h : Inv P) {i d : Nat} {s : WS} {L : List Int} {t u : Int} (hw : P.ws[i]? = some s) (ho : P.op[i]? = some L) (ht : t ∈ L) (hu : t ≤ u) (hu2 : u ≤ 1073741824) (hd : d < P.n) :
    Inv { P with ws := P.ws.set i ⟨s.rd, s.lo, s.M ++ [(P.sent, u)]⟩, l := P.l ++ [⟨0, i, d, P.sent, u⟩], sent := P.sent + 1 } := by
  have ht0 := h.opt i L t ho ht
  have hg : ∀ (j : Nat) (r : WS), (P.ws.set i ⟨s.rd, s.lo, s.M ++ [(P.sent, u)]⟩)[j]? = some r → ∃ r0 : WS, P.ws[j]? = some r0 ∧ r.rd = r0.rd ∧ r.lo = r0.lo ∧ (∀ q ∈ r.M, q ∈ r0.M ∨ q = (P.sent, u)) := by
    intro j r hj
    rcases (set_get hw).1 hj with ⟨rfl, rfl⟩ | ⟨_, hj'⟩
    · exact ⟨s, hw, rfl, rfl, fun q hq => by simpa using hq⟩
    · exact ⟨r, hj', rfl, rfl, fun q hq => .inl hq⟩
  have hf : ∀ (j : Nat) (r0 : WS), P.ws[j]? = some r0 → ∃ r : WS, (P.ws.set i ⟨s.rd, s.lo, s.M ++ [(P.sent, u)]⟩)[j]? = some r ∧ r.rd = r0.rd ∧ r.lo = r0.lo ∧ (∀ q ∈ r0.M, q ∈ r.M) := by
    intro j r0 hj
    by_cases e : j = i
    · subst e
      rw [hw] at hj
      injection hj with hj
      subst hj
      exact ⟨_, (set_get hw).2 (.inl ⟨rfl, rfl⟩), rfl, rfl, fun q hq => by simp [hq]⟩
    · exact ⟨r0, (set_get hw).2 (.inr ⟨e, hj⟩), rfl, rfl, fun q hq => hq⟩
  have hcov : ∀ x, Cov P x → Cov { P with ws := P.ws.set i ⟨s.rd, s.lo, s.M ++ [(P.sent, u)]⟩, l := P.l ++ [⟨0, i, d, P.sent, u⟩], sent := P.sent + 1 } x := by
    intro x hx
    rcases hx with h | ⟨p, hp, hk, ht⟩ | ⟨j, r, hj, hr, hx⟩
    · exact .inl h
    · exact .inr (.inl ⟨p, by simp [hp], hk, ht⟩)
    · obtain ⟨r', h1, h2, h3, h4⟩ := hf j r hj
      refine .inr (.inr ⟨j, r', h1, by rw [h2]; exact hr, ?_⟩)
      rcases hx with hx | ⟨p, hp, hk, hd, ht, a, ha, hx⟩
      · exact .inl (by rw [h3]; exact hx)
      · exact .inr ⟨p, by simp [hp], hk, hd, ht, a, h4 _ ha, hx⟩
  have hnew : ∀ p ∈ P.l, p.kind ≤ 1 → p.no < P.sent := by
    intro p hp hk
    rcases h.kinds p hp with e | e | e | e
    · obtain ⟨f, d', r, _, _, _, h4, h5, _⟩ := h.msg p hp e
      exact (h.mt f r _ h4 h5).2.1
    · obtain ⟨d', r, a, _, h4, h5, _⟩ := h.ack p hp e
      exact (h.mt d' r _ h4 h5).2.1
    · omega
    · omega
  have hsp := h.s0
  refine ⟨by simpa using h.lw, h.lo, h.n1, h.n8, h.r0, by show 0 ≤ P.sent + 1; omega, ?_, ?_, ?_, ?_, h.opt, ?_, ?_, ?_, ?_, ?_, ?_, ?_, h.nt, ?_, h.tn, h.ln, h.tgo, ?_, ?_, ?_⟩
  · intro j r hj
    obtain ⟨r0, h1, h2, _⟩ := hg j r hj
    rw [h2]
    exact h.rdj j r0 h1
  · intro j r hj
    obtain ⟨r0, h1, _, h2, _⟩ := hg j r hj
    rw [h2]
    exact h.lot j r0 h1
  · intro j r hj
    rcases (set_get hw).1 hj with ⟨rfl, rfl⟩ | ⟨_, hj'⟩
    · refine List.pairwise_append.2 ⟨h.nd _ s hw, by simp, fun a ha b hb => ?_⟩
      simp only [List.mem_singleton] at hb
      subst hb
      have := (h.mt _ s a hw ha).2.1
      simp only; omega
    · exact h.nd j r hj'
  · intro j r p hj hp
    obtain ⟨r0, h1, _, _, h4⟩ := hg j r hj
    rcases h4 p hp with hp | rfl
    · have := h.mt j r0 p h1 hp
      exact ⟨this.1, by show p.1 < P.sent + 1; omega, this.2.2⟩
    · exact ⟨hsp, by show P.sent < P.sent + 1; omega, ⟨by simp only; omega, by simp only; omega⟩⟩
  · intro p hp
    simp only [List.mem_append, List.mem_singleton] at hp
    rcases hp with hp | rfl
    · exact h.kinds p hp
    · exact .inl rfl
  · intro p hp hk
    simp only [List.mem_append, List.mem_singleton] at hp
    rcases hp with hp | rfl
    · obtain ⟨f, d', r, h1, h2, h3, h4, h5, h6⟩ := h.msg p hp hk
      obtain ⟨r', g1, _, _, g4⟩ := hf f r h4
      exact ⟨f, d', r', h1, h2, h3, g1, g4 _ h5, h6⟩
    · obtain ⟨r', g1, _, _, g4⟩ := hf i s hw
      refine ⟨i, d, ⟨s.rd, s.lo, s.M ++ [(P.sent, u)]⟩, rfl, rfl, hd, (set_get hw).2 (.inl ⟨rfl, rfl⟩), by simp, by simp only; omega, hu2⟩
  · intro p hp hk
    simp only [List.mem_append, List.mem_singleton] at hp
    rcases hp with hp | rfl
    · obtain ⟨d', r, a, h1, h2, h3, h4⟩ := h.ack p hp hk
      obtain ⟨r', g1, _, _, g4⟩ := hf d' r h2
      exact ⟨d', r', a, h1, g1, g4 _ h3, h4⟩
    · simp at hk
  · intro p hp hk
    simp only [List.mem_append, List.mem_singleton] at hp
    rcases hp with hp | rfl
    · obtain ⟨h1, h2, d', r, h3, h4, h5, h6⟩ := h.st p hp hk
      obtain ⟨r', g1, g2, _, _⟩ := hf d' r h4
      exact ⟨h1, h2, d', r', h3, g1, by rw [g2]; exact h5, h6⟩
    · simp at hk
  · intro p hp hk
    simp only [List.mem_append, List.mem_singleton] at hp
    rcases hp with hp | rfl
    · obtain ⟨h1, h2, h3, d', r, h4, h5, h6, h7⟩ := h.rp p hp hk
      obtain ⟨r', g1, g2, _, _⟩ := hf d' r h5
      exact ⟨h1, h2, h3, d', r', h4, g1, by rw [g2]; exact h6, h7⟩
    · simp at hk
  · refine List.pairwise_append.2 ⟨h.uniq, by simp, fun p hp q hq => ?_⟩
    simp only [List.mem_singleton] at hq
    subst hq
    refine ⟨fun hk _ => ?_, fun _ e => ?_, fun _ e => ?_⟩
    · have := hnew p hp hk
      simp only; omega
    · simp at e
    · simp at e
  · intro hr d' r hd' htd
    obtain ⟨r0, h1, h2, _⟩ := hg d' r hd'
    rw [h2]
    exact h.td hr d' r0 h1 htd
  · intro hr d' r hd'
    obtain ⟨r0, h1, h2, _⟩ := hg d' r hd'
    rcases h.live hr d' r0 h1 with h3 | ⟨h3, p, hp, h4⟩ | ⟨h3, p, hp, h4⟩
    · exact .inl h3
    · exact .inr (.inl ⟨by rw [h2]; exact h3, p, by simp [hp], h4⟩)
    · exact .inr (.inr ⟨by rw [h2]; exact h3, p, by simp [hp], h4⟩)
  · intro p hp hk
    simp only [List.mem_append, List.mem_singleton] at hp
    rcases hp with hp | rfl
    · exact h.tgm p hp hk
    · have := h.tgo i L t ho ht
      show P.time ≤ u
      omega
  · intro hr j r K t' h1 h2 h3 h4
    obtain ⟨r0, g1, g2, _⟩ := hg j r h1
    exact hcov _ (h.cvo hr j r0 K t' g1 (by rw [← g2]; exact h2) h3 h4)
  · intro hr p hp hk f r h1 h2 h3
    obtain ⟨r0, g1, g2, _⟩ := hg f r h2
    simp only [List.mem_append, List.mem_singleton] at hp
    rcases hp with hp | rfl
    · exact hcov _ (h.cvm hr p hp hk f r0 h1 g1 (by rw [← g2]; exact h3))
    · have e : f = i := by simp only at h1; omega
      subst e
      exact hcov _ ((h.cvo hr f r0 L t g1 (by rw [← g2]; exact h3) ho ht).up hu)
end Go.Proofs.Ytdommbaljchofaa
