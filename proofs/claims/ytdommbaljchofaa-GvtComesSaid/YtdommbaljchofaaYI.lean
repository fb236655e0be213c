/-
  The statements' world, no program in sight: a round while nothing is sent.
-/
import Derived.Test.YtdommbaljchofaaYH
namespace Go.Proofs.Ytdommbaljchofaa
set_option linter.unusedVariables false

/-- The least open time of all. -/
def openMin (O : List (List Int)) : Int := O.flatten.foldl min Never
theorem openMin_le {O : List (List Int)} {d : Nat} {L : List Int} (h : O[d]? = some L) : openMin O ≤ L.foldl min Never := by
  have hf := foldl_min_le O.flatten Never
  refine foldl_min_ge L Never hf.1 fun t ht => ?_
  exact hf.2.1 t (List.mem_flatten.2 ⟨L, List.mem_of_getElem? h, ht⟩)
theorem le_openMin {O : List (List Int)} {x : Int} (h0 : x ≤ Never) (h : ∀ (d : Nat) (L : List Int), O[d]? = some L → x ≤ L.foldl min Never) : x ≤ openMin O := by
  refine foldl_min_ge _ _ h0 fun t ht => ?_
  obtain ⟨L, hL, htL⟩ := List.mem_flatten.1 ht
  obtain ⟨d, hd⟩ := List.mem_iff_getElem?.1 hL
  have h1 := h d L hd
  have h2 := (foldl_min_le L Never).2.1 t htL
  omega

structure Calm (P : PS) : Prop where
  kinds : ∀ p ∈ P.l, p.kind = 2 ∨ p.kind = 3
  m : ∀ (j : Nat) (s : WS), P.ws[j]? = some s → s.M = [] ∧ s.lo = Never
  rep : ∀ p ∈ P.l, p.kind = 3 → ∀ (d : Nat) (L : List Int), p.fr = (d : Int) → P.op[d]? = some L → p.tm = L.foldl min Never
  run : P.run = true → openMin P.op ≤ P.least ∧ ∀ (d : Nat) (L : List Int), P.op[d]? = some L → P.told d = true → P.least ≤ L.foldl min Never
  done : P.run = false → P.time = openMin P.op

theorem Calm.perm {P : PS} {l' : List Pk} (h : Calm P) (hp : P.l.Perm l') : Calm { P with l := l' } :=
  ⟨fun p hq => h.kinds p (hp.symm.subset hq), h.m, fun p hq => h.rep p (hp.symm.subset hq), h.run, h.done⟩
theorem Calm.begin {P : PS} (hl : P.l = []) (hm : ∀ (j : Nat) (s : WS), P.ws[j]? = some s → s.M = [] ∧ s.lo = Never ∧ s.rd = P.rd) :
    Calm { P with rd := P.rd + 1, told := fun _ => false, run := true, least := Never, l := P.l ++ starts P.ws.length (P.rd + 1) } := by
  have hs : ∀ p ∈ P.l ++ starts P.ws.length (P.rd + 1), p.kind = 2 := by
    intro p hp
    rw [hl, List.nil_append] at hp
    obtain ⟨i, _, rfl⟩ := mem_starts.1 hp
    rfl
  refine ⟨fun p hp => .inl (hs p hp), fun j s hj => ⟨(hm j s hj).1, (hm j s hj).2.1⟩, fun p hp hk => ?_, fun _ => ⟨?_, fun d L _ e => by cases e⟩, fun e => by cases e⟩
  · have := hs p hp
    omega
  · exact (foldl_min_le P.op.flatten Never).1
theorem Calm.started {P : PS} {p : Pk} {rest : List Pk} {d : Nat} {s : WS} {L : List Int} (hi : Inv { P with l := p :: rest }) (h : Calm { P with l := p :: rest }) (hk : p.kind = 2) (hd : p.dst = (d : Int)) (hw : P.ws[d]? = some s) (ho : P.op[d]? = some L) :
    Calm { P with l := rest ++ [⟨3, (d : Int), 0, p.no, startRes s.M s.rd s.lo p.no L⟩], ws := P.ws.set d ⟨startRd s.rd p.no L, startLo s.rd s.lo p.no L, s.M⟩ } := by
  have hcode := hi.startCode (by simp) hk hd hw ho
  obtain ⟨hM, hlo⟩ := h.m d s hw
  refine ⟨fun q hq => ?_, fun j r hj => ?_, fun q hq hkq d' L' hf hL' => ?_, h.run, h.done⟩
  · simp only [List.mem_append, List.mem_singleton] at hq
    rcases hq with hq | rfl
    · exact h.kinds q (by simp [hq])
    · exact .inr rfl
  · rcases (set_get hw).1 hj with ⟨rfl, rfl⟩ | ⟨_, hj'⟩
    · refine ⟨hM, ?_⟩
      simp only [startLo]
      rw [if_pos hcode]
    · exact h.m j r hj'
  · simp only [List.mem_append, List.mem_singleton] at hq
    rcases hq with hq | rfl
    · exact h.rep q (by simp [hq]) hkq d' L' hf hL'
    · simp only at hf hL'
      have e : d' = d := by omega
      subst e
      rw [ho] at hL'
      injection hL' with hL'
      subst hL'
      simp only [startRes]
      rw [if_pos hcode, hM, hlo]
      have h1 := (foldl_min_le L Never).1
      show min (L.foldl min Never) Never = L.foldl min Never
      omega
theorem Calm.reported {P : PS} {p : Pk} {rest : List Pk} {d : Nat} (hi : Inv { P with l := p :: rest }) (h : Calm { P with l := p :: rest }) (hk : p.kind = 3) (hd : p.fr = (d : Int)) :
    Calm { P with l := rest, told := toldUp P.told d, run := !allTold P.n (toldUp P.told d), least := min P.least p.tm, time := if allTold P.n (toldUp P.told d) = true then max P.time (min P.least p.tm) else P.time } := by
  obtain ⟨d', e1, _, hrun, hdn, htm, htold⟩ := hi.repFacts (p := p) (by simp) hk
  have e : d' = d := by omega
  subst e
  simp only at hrun hdn htold
  obtain ⟨hr1, hr2⟩ := h.run hrun
  simp only at hr1 hr2
  obtain ⟨L, hL⟩ : ∃ L, P.op[d']? = some L := ⟨_, List.getElem?_eq_getElem (by have := hi.lo; simp only at this; rw [this]; exact hdn)⟩
  have htmL := h.rep p (by simp) hk d' L hd hL
  have hG := openMin_le hL
  have hup : ∀ (d2 : Nat) (L2 : List Int), P.op[d2]? = some L2 → toldUp P.told d' d2 = true → min P.least p.tm ≤ L2.foldl min Never := by
    intro d2 L2 hL2 ht
    rcases toldUp_true.1 ht with rfl | ht
    · rw [hL] at hL2
      injection hL2 with hL2
      rw [← hL2]
      omega
    · have := hr2 d2 L2 hL2 ht
      omega
  refine ⟨fun q hq => h.kinds q (by simp [hq]), h.m, fun q hq => h.rep q (by simp [hq]), fun _ => ⟨?_, hup⟩, fun hf => ?_⟩
  · show openMin P.op ≤ min P.least p.tm
    omega
  · have ha : allTold P.n (toldUp P.told d') = true := by
      cases hb : allTold P.n (toldUp P.told d') with
      | true => rfl
      | false => simp [hb] at hf
    have ha' := allTold_true.1 ha
    have h1 : min P.least p.tm ≤ openMin P.op := le_openMin (by have := htm.2; have e : Never = 1073741825 := rfl; omega) fun d2 L2 hL2 => hup d2 L2 hL2 (ha' d2 (by
      have := hi.lo
      simp only at this
      rw [← this]
      exact (List.getElem?_eq_some_iff.1 hL2).1))
    have h2 : P.time ≤ openMin P.op := foldl_min_ge _ _ hi.tn.2 fun t ht => by
      obtain ⟨L2, hL2, htL⟩ := List.mem_flatten.1 ht
      obtain ⟨d2, hd2⟩ := List.mem_iff_getElem?.1 hL2
      exact hi.tgo d2 L2 t hd2 htL
    simp only
    rw [if_pos ha]
    omega
end Go.Proofs.Ytdommbaljchofaa
