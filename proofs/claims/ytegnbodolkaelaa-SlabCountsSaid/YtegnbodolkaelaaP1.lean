/-
  What the statement SlabTurns keeps from call to call, in plain data. No program in sight.
-/
import Derived.Test.YtegnbodolkaelaaS
namespace Go.Proofs.Ytegnbodolkaelaa

/-- The handles that live: slots and turns. -/
structure Lives (S : Sl) (L : List (Nat × Int)) : Prop where
  ok : ∀ p ∈ L, p.1 < S.n ∧ S.cl p.1 ≠ 0 ∧ S.tn p.1 = p.2 ∧ 1 ≤ p.2
  nd : L.Pairwise (fun a b => a.1 ≠ b.1)
  cnt : L.length + S.m = S.n

theorem Lives.new (n : Nat) (r : Int) : Lives (Sl.new n r) [] := ⟨by simp, by simp, by simp [Sl.new]⟩

theorem Lives.take {S : Sl} {L : List (Nat × Int)} {K : Int} (h : Lives S L) (hI : S.Inv) (hB : S.Bd K) {c v : Int} (h1 : 1 ≤ c) (hm : 0 < S.m) :
    Lives (S.taken c v) (L ++ [(S.fr (S.m - 1), S.tn (S.fr (S.m - 1)) + 1)]) := by
  have hc0 := hI.cl0 (S.m - 1) (by omega)
  have hfr := hI.fr (S.m - 1) (by omega)
  have hb := (hB.1 (S.fr (S.m - 1))).1
  have hne : ∀ p ∈ L, p.1 ≠ S.fr (S.m - 1) := fun p hp e => (h.ok p hp).2.1 (by rw [e]; exact hc0)
  refine ⟨fun p hp => ?_, ?_, ?_⟩
  · rcases List.mem_append.1 hp with hp | hp
    · have ho := h.ok p hp
      have hn := hne p hp
      simp only [Sl.taken]
      rw [upd_other _ _ hn, upd_other _ _ hn]
      exact ho
    · have e : p = (S.fr (S.m - 1), S.tn (S.fr (S.m - 1)) + 1) := by simpa using hp
      subst e
      simp only [Sl.taken]
      rw [upd_same, upd_same]
      exact ⟨hfr, by omega, rfl, by omega⟩
  · refine List.pairwise_append.2 ⟨h.nd, by simp, fun p hp b hb' => ?_⟩
    have e : b = (S.fr (S.m - 1), S.tn (S.fr (S.m - 1)) + 1) := by simpa using hb'
    rw [e]
    exact hne p hp
  · have := h.cnt
    simp only [Sl.taken, List.length_append, List.length_singleton]
    omega

theorem Lives.free {S : Sl} {L : List (Nat × Int)} (h : Lives S L) {j : Nat} (hj : j < L.length) :
    Lives (S.freed (L[j]'hj).1) (L.eraseIdx j) := by
  have hother : ∀ p ∈ L.eraseIdx j, p.1 ≠ (L[j]'hj).1 := by
    intro p hp
    obtain ⟨i, hi, hne, rfl⟩ : ∃ i, ∃ hi : i < L.length, i ≠ j ∧ L[i] = p := by
      obtain ⟨i, h0, hne, h1⟩ := List.mem_eraseIdx_iff_getElem.1 hp
      exact ⟨i, by omega, hne, h1⟩
    intro e
    have hnd := List.pairwise_iff_getElem.1 h.nd
    rcases Nat.lt_or_gt_of_ne hne with hlt | hgt
    · exact hnd i j hi hj hlt e
    · exact hnd j i hj hi hgt e.symm
  refine ⟨fun p hp => ?_, ?_, ?_⟩
  · have ho := h.ok p (List.mem_of_mem_eraseIdx hp)
    have hn := hother p hp
    simp only [Sl.freed]
    rw [upd_other _ _ hn]
    exact ho
  · exact h.nd.sublist (List.eraseIdx_sublist _ _)
  · have := h.cnt
    rw [List.length_eraseIdx_of_lt hj]
    simp only [Sl.freed]
    omega

theorem Lives.room {S : Sl} {L : List (Nat × Int)} (h : Lives S L) (hj : 0 < L.length) : S.m < S.n := by have := h.cnt; omega

/-- What SlabTurns keeps: F slots of the stack were freed: those that are taken next. -/
structure TI (n k : Nat) (S : Sl) (L : List (Nat × Int)) (F : Nat) : Prop where
  inv : S.Inv
  bd : S.Bd k
  n : S.n = n
  r0 : S.res = 0
  lv : Lives S L
  f : F ≤ S.m
  st : ∀ j, j < S.m → (S.tn (S.fr j) = 0 ↔ j < S.m - F)

theorem TI.start {n : Nat} (h1 : 1 ≤ n) (h2 : n ≤ 4096) : TI n 0 (Sl.new n 0) [] 0 :=
  ⟨Sl.Inv.new 0 h1 h2, Sl.Bd.new n 0, rfl, rfl, Lives.new n 0, Nat.zero_le _, fun j hj => by simp only [Sl.new] at hj ⊢; simp; omega⟩
theorem TI.skip {n k : Nat} {S : Sl} {L : List (Nat × Int)} {F : Nat} (h : TI n k S L F) : TI n (k + 1) S L F :=
  ⟨h.inv, h.bd.more (by omega), h.n, h.r0, h.lv, h.f, h.st⟩
theorem TI.top {n k : Nat} {S : Sl} {L : List (Nat × Int)} {F : Nat} (h : TI n k S L F) (hm : 0 < S.m) : S.tn (S.fr (S.m - 1)) = 0 ↔ F = 0 := by
  have := h.st (S.m - 1) (by omega)
  have := h.f
  omega
theorem TI.take {n k : Nat} {S : Sl} {L : List (Nat × Int)} {F : Nat} (h : TI n k S L F) {c v : Int} (h1 : 1 ≤ c) (h4 : c ≤ 4) (hm : 0 < S.m) :
    TI n (k + 1) (S.taken c v) (L ++ [(S.fr (S.m - 1), S.tn (S.fr (S.m - 1)) + 1)]) (F - 1) := by
  have hf := h.f
  refine ⟨h.inv.taken c v h1 h4 hm, by have := h.bd.taken c v; exact_mod_cast this, h.n, h.r0, h.lv.take h.inv h.bd h1 hm, by simp only [Sl.taken]; omega, fun j hj => ?_⟩
  simp only [Sl.taken] at hj ⊢
  have hne : S.fr j ≠ S.fr (S.m - 1) := fun e => by have := h.inv.inj j (S.m - 1) (by omega) (by omega) e; omega
  rw [upd_other _ _ hne, h.st j (by omega)]
  omega
theorem TI.free {n k : Nat} {S : Sl} {L : List (Nat × Int)} {F : Nat} (h : TI n k S L F) {j : Nat} (hj : j < L.length) :
    TI n (k + 1) (S.freed (L[j]'hj).1) (L.eraseIdx j) (F + 1) := by
  have hf := h.f
  have ho := h.lv.ok _ (List.getElem_mem hj)
  have hr := h.lv.room (by omega)
  refine ⟨h.inv.freed _ ho.1 ho.2.1 hr, by have := h.bd.freed (L[j]'hj).1; exact_mod_cast this, h.n, h.r0, h.lv.free hj, by simp only [Sl.freed]; omega, fun i hi => ?_⟩
  simp only [Sl.freed] at hi ⊢
  by_cases e : i = S.m
  · subst e
    rw [upd_same]
    omega
  · rw [upd_other _ _ e, h.st i (by omega)]
    omega
/-- The place that a number picks among so many. -/
def pick (x : Int) (n : Nat) : Nat := ((x.tmod n + n).tmod n).toNat
theorem pick_lt {x : Int} {n : Nat} (hn : 0 < n) : pick x n < n := by
  unfold pick
  have h1 := Int.tmod_lt_of_pos (x.tmod n + n) (show (0 : Int) < n by omega)
  omega
theorem pick_eq {x : Int} {n : Nat} (hn : 0 < n) : (x.tmod n + n).tmod n = (pick x n : Int) := by
  unfold pick
  have h1 : -(n : Int) < x.tmod n := by
    have := Int.lt_tmod_of_pos x (show (0 : Int) < n by omega)
    omega
  have h2 : 0 ≤ (x.tmod n + n).tmod n := Int.tmod_nonneg _ (by omega)
  omega
end Go.Proofs.Ytegnbodolkaelaa
