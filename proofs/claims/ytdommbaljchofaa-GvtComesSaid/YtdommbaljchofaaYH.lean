/-
  The statements' world, no program in sight: who waits for what; a started worker's low.
-/
import Derived.Test.YtdommbaljchofaaYD
namespace Go.Proofs.Ytdommbaljchofaa
set_option linter.unusedVariables false

structure Inv2 (P : PS) : Prop where
  own : ∀ (j : Nat) (s : WS) (q : Int × Int), P.ws[j]? = some s → q ∈ s.M → ∃ p ∈ P.l, p.no = q.1 ∧ ((p.kind = 0 ∧ p.fr = (j : Int)) ∨ (p.kind = 1 ∧ p.dst = (j : Int)))
  low : ∀ (j : Nat) (s : WS), P.ws[j]? = some s → s.rd = P.rd → s.lo = Never
theorem Inv2.perm {P : PS} {l' : List Pk} (h : Inv2 P) (hp : P.l.Perm l') : Inv2 { P with l := l' } :=
  ⟨fun j s q hj hq => by
    obtain ⟨p, h1, h2⟩ := h.own j s q hj hq
    exact ⟨p, hp.subset h1, h2⟩, h.low⟩
theorem Inv2.drop {P : PS} (h : Inv2 P) (O : List (List Int)) : Inv2 { P with op := O } := ⟨h.own, h.low⟩
theorem Inv2.send {P : PS} (h : Inv2 P) {i d : Nat} {s : WS} {u : Int} (hw : P.ws[i]? = some s) :
    Inv2 { P with ws := P.ws.set i ⟨s.rd, s.lo, s.M ++ [(P.sent, u)]⟩, l := P.l ++ [⟨0, i, d, P.sent, u⟩], sent := P.sent + 1 } := by
  refine ⟨fun j r q hj hq => ?_, fun j r hj hr => ?_⟩
  · rcases (set_get hw).1 hj with ⟨rfl, rfl⟩ | ⟨_, hj'⟩
    · simp only [List.mem_append, List.mem_singleton] at hq
      rcases hq with hq | rfl
      · obtain ⟨p, h1, h2⟩ := h.own _ s q hw hq
        exact ⟨p, by simp [h1], h2⟩
      · exact ⟨⟨0, j, d, P.sent, u⟩, by simp, rfl, .inl ⟨rfl, rfl⟩⟩
    · obtain ⟨p, h1, h2⟩ := h.own j r q hj' hq
      exact ⟨p, by simp [h1], h2⟩
  · rcases (set_get hw).1 hj with ⟨rfl, rfl⟩ | ⟨_, hj'⟩
    · exact h.low _ s hw hr
    · exact h.low j r hj' hr
theorem Inv2.begin {P : PS} (hi : Inv P) (h : Inv2 P) (hr : P.run = false) : Inv2 { P with rd := P.rd + 1, told := fun _ => false, run := true, least := Never, l := P.l ++ starts P.ws.length (P.rd + 1) } := by
  refine ⟨fun j s q hj hq => ?_, fun j s hj hs => ?_⟩
  · obtain ⟨p, h1, h2⟩ := h.own j s q hj hq
    exact ⟨p, by simp [h1], h2⟩
  · rcases (hi.rdj j s hj).2 with e | ⟨e, _⟩
    · simp only at hs; omega
    · rw [hr] at e; cases e
theorem Inv2.recv {P : PS} {p : Pk} {rest : List Pk} {d : Nat} {k : WS} {O : List (List Int)} (hi : Inv { P with l := p :: rest }) (h : Inv2 { P with l := p :: rest }) (hk : p.kind = 0) :
    Inv2 { P with l := rest ++ [⟨1, (d : Int), p.fr, p.no, k.rd⟩], op := O } := by
  refine ⟨fun j s q hj hq => ?_, h.low⟩
  obtain ⟨p', h1, h2, h3⟩ := h.own j s q hj hq
  simp only [List.mem_cons] at h1
  rcases h1 with rfl | h1
  · rcases h3 with ⟨_, h4⟩ | ⟨h4, _⟩
    · exact ⟨⟨1, (d : Int), p'.fr, p'.no, k.rd⟩, by simp, h2, .inr ⟨rfl, h4⟩⟩
    · omega
  · exact ⟨p', by simp [h1], h2, h3⟩
theorem Inv2.acked {P : PS} {p : Pk} {rest : List Pk} {d : Nat} {s : WS} (hi : Inv { P with l := p :: rest }) (h : Inv2 { P with l := p :: rest }) (hk : p.kind = 1) (hd : p.dst = (d : Int)) (hw : P.ws[d]? = some s) :
    Inv2 { P with l := rest, ws := P.ws.set d ⟨s.rd, ackedLo s.M s.rd s.lo p.no p.tm, ackedM s.M s.rd p.no p.tm⟩ } := by
  have hcode := hi.ackCode (by simp) hk hd hw
  obtain ⟨d', s', a, h1, h2, h3, h4, h5⟩ := hi.ack p (by simp) hk
  have hMe : ackedM s.M s.rd p.no p.tm = s.M.filter (fun q => q.1 != p.no) := by simp [ackedM, hcode]
  have key : ∀ (j : Nat) (r : WS) (q : Int × Int), P.ws[j]? = some r → q ∈ r.M → (j = d → q.1 ≠ p.no) → ∃ p' ∈ rest, p'.no = q.1 ∧ ((p'.kind = 0 ∧ p'.fr = (j : Int)) ∨ (p'.kind = 1 ∧ p'.dst = (j : Int))) := by
    intro j r q hj hq hne
    obtain ⟨p', g1, g2, g3⟩ := h.own j r q hj hq
    simp only [List.mem_cons] at g1
    rcases g1 with rfl | g1
    · rcases g3 with ⟨g4, _⟩ | ⟨_, g4⟩
      · omega
      · exact absurd g2.symm (hne (by omega))
    · exact ⟨p', g1, g2, g3⟩
  refine ⟨fun j r q hj hq => ?_, fun j r hj hr => ?_⟩
  · rcases (set_get hw).1 hj with ⟨rfl, rfl⟩ | ⟨hne, hj'⟩
    · simp only [hMe] at hq
      have hq' := List.mem_filter.1 hq
      exact key j s q hw hq'.1 (fun _ => by simpa using hq'.2)
    · exact key j r q hj' hq (fun e => absurd e hne)
  · rcases (set_get hw).1 hj with ⟨rfl, rfl⟩ | ⟨_, hj'⟩
    · have h6 := h.low j s hw hr
      simp only at hr h5
      have : ¬ s.rd < p.tm := by omega
      simp [ackedLo, this, h6]
    · exact h.low j r hj' hr
theorem Inv2.started {P : PS} {p : Pk} {rest : List Pk} {d : Nat} {s : WS} {L : List Int} {v : Pk} (hi : Inv { P with l := p :: rest }) (h : Inv2 { P with l := p :: rest }) (hk : p.kind = 2) (hd : p.dst = (d : Int)) (hw : P.ws[d]? = some s) (ho : P.op[d]? = some L) :
    Inv2 { P with l := rest ++ [v], ws := P.ws.set d ⟨startRd s.rd p.no L, startLo s.rd s.lo p.no L, s.M⟩ } := by
  have hcode := hi.startCode (by simp) hk hd hw ho
  have key : ∀ (j : Nat) (r : WS) (q : Int × Int), P.ws[j]? = some r → q ∈ r.M → ∃ p' ∈ rest ++ [v], p'.no = q.1 ∧ ((p'.kind = 0 ∧ p'.fr = (j : Int)) ∨ (p'.kind = 1 ∧ p'.dst = (j : Int))) := by
    intro j r q hj hq
    obtain ⟨p', g1, g2, g3⟩ := h.own j r q hj hq
    simp only [List.mem_cons] at g1
    rcases g1 with rfl | g1
    · omega
    · exact ⟨p', by simp [g1], g2, g3⟩
  refine ⟨fun j r q hj hq => ?_, fun j r hj hr => ?_⟩
  · rcases (set_get hw).1 hj with ⟨rfl, rfl⟩ | ⟨_, hj'⟩
    · exact key j s q hw hq
    · exact key j r q hj' hq
  · rcases (set_get hw).1 hj with ⟨rfl, rfl⟩ | ⟨_, hj'⟩
    · simp only [startLo]
      rw [if_pos hcode]
    · exact h.low j r hj' hr
theorem Inv2.reported {P : PS} {p : Pk} {rest : List Pk} {told' : Nat → Bool} {run' : Bool} {least' time' : Int} (h : Inv2 { P with l := p :: rest }) (hk : p.kind = 3) :
    Inv2 { P with l := rest, told := told', run := run', least := least', time := time' } := by
  refine ⟨fun j s q hj hq => ?_, h.low⟩
  obtain ⟨p', g1, g2, g3⟩ := h.own j s q hj hq
  simp only [List.mem_cons] at g1
  rcases g1 with rfl | g1
  · omega
  · exact ⟨p', g1, g2, g3⟩
theorem Inv2.start (n : Nat) (O : List (List Int)) (told : Nat → Bool) : Inv2 ⟨List.replicate n ⟨0, Never, []⟩, O, [], n, 0, told, false, 0, 0, 0⟩ := by
  have hr : ∀ (j : Nat) (s : WS), (List.replicate n (⟨0, Never, []⟩ : WS))[j]? = some s → s = ⟨0, Never, []⟩ := fun j s hj => (List.mem_replicate.1 (List.mem_of_getElem? hj)).2
  refine ⟨fun j s q hj hq => ?_, fun j s hj _ => ?_⟩
  · rw [hr j s hj] at hq
    simp at hq
  · rw [hr j s hj]

/-- What is left to come. -/
def rank (p : Pk) : Nat := if p.kind = 0 ∨ p.kind = 2 then 2 else 1
def todo (l : List Pk) : Nat := (l.map rank).sum
theorem todo_le (l : List Pk) : todo l ≤ 2 * l.length := by
  induction l with
  | nil => simp [todo]
  | cons p l ih =>
    have : rank p ≤ 2 := by unfold rank; split <;> omega
    simp only [todo, List.map_cons, List.sum_cons, List.length_cons] at ih ⊢
    omega
theorem todo_ge (l : List Pk) : l.length ≤ todo l := by
  induction l with
  | nil => simp [todo]
  | cons p l ih =>
    have : 1 ≤ rank p := by unfold rank; split <;> omega
    simp only [todo, List.map_cons, List.sum_cons, List.length_cons] at ih ⊢
    omega
theorem todo_perm {l l' : List Pk} (h : l.Perm l') : todo l = todo l' := (h.map rank).sum_nat
theorem todo_snoc (l : List Pk) (p : Pk) : todo (l ++ [p]) = todo l + rank p := by simp [todo]
theorem todo_cons (l : List Pk) (p : Pk) : todo (p :: l) = rank p + todo l := by simp [todo]

/-- Nothing on its way: no round runs, and nothing waits. -/
theorem Inv.still {P : PS} (h : Inv P) (h2 : Inv2 P) (hl : P.l = []) : P.run = false ∧ ∀ (j : Nat) (s : WS), P.ws[j]? = some s → s.M = [] ∧ s.lo = Never ∧ s.rd = P.rd := by
  have hrun : P.run = false := by
    cases hr : P.run with
    | false => rfl
    | true =>
      obtain ⟨d, hd, ht⟩ := h.nt hr
      have hdl : d < P.ws.length := by rw [h.lw]; exact hd
      rcases h.live hr d _ (List.getElem?_eq_getElem hdl) with e | ⟨_, p, hp, _⟩ | ⟨_, p, hp, _⟩
      · rw [ht] at e; cases e
      · rw [hl] at hp; simp at hp
      · rw [hl] at hp; simp at hp
  refine ⟨hrun, fun j s hj => ?_⟩
  have hrd : s.rd = P.rd := by
    rcases (h.rdj j s hj).2 with e | ⟨e, _⟩
    · exact e
    · rw [hrun] at e; cases e
  refine ⟨?_, h2.low j s hj hrd, hrd⟩
  cases hM : s.M with
  | nil => rfl
  | cons q M =>
    obtain ⟨p, hp, _⟩ := h2.own j s q hj (by rw [hM]; simp)
    rw [hl] at hp
    simp at hp
end Go.Proofs.Ytdommbaljchofaa
