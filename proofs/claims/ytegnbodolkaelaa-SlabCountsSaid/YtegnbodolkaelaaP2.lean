/-
  What the statement SlabCounts keeps: the handles that live, and those that are dead, in plain data and in memory.
-/
import Derived.Test.YtegnbodolkaelaaP3
namespace Go.Proofs.Ytegnbodolkaelaa
open Go.RowKit Go.Deep
set_option linter.unusedVariables false

/-- The dead handles tell nothing, and never will. -/
def Dead (S : Sl) (D : List (Nat × Int)) : Prop := ∀ p ∈ D, p.1 < S.n ∧ p.2 ≤ S.tn p.1 ∧ (p.2 = S.tn p.1 → S.cl p.1 = 0)
theorem Dead.stale {S : Sl} {D : List (Nat × Int)} (h : Dead S D) {p : Nat × Int} (hp : p ∈ D) : Stale S p.1 p.2 := by
  obtain ⟨h1, h2, h3⟩ := h p hp
  refine .inr ⟨by omega, by omega, ?_⟩
  rw [Int.toNat_natCast]
  by_cases e : p.2 = S.tn p.1
  · exact .inl (h3 e)
  · exact .inr (fun e' => e e'.symm)
theorem Dead.take {S : Sl} {D : List (Nat × Int)} (h : Dead S D) {c v : Int} : Dead (S.taken c v) D := by
  intro p hp
  obtain ⟨h1, h2, h3⟩ := h p hp
  simp only [Sl.taken, upd]
  refine ⟨h1, ?_, fun e => ?_⟩
  · split
    · rename_i e; rw [e] at h2; omega
    · exact h2
  · split
    · rename_i e'; rw [if_pos e'] at e; rw [e'] at h2; omega
    · rename_i e'; rw [if_neg e'] at e; exact h3 e
theorem Dead.new {S : Sl} {D : List (Nat × Int)} (h : Dead S D) {p : Nat × Int} (hp : p ∈ D) : p ≠ (S.fr (S.m - 1), S.tn (S.fr (S.m - 1)) + 1) := by
  intro e
  have := (h p hp).2.1
  rw [e] at this
  simp at this
  omega
theorem Dead.free {S : Sl} {D L : List (Nat × Int)} (h : Dead S D) (hL : Lives S L) {j : Nat} (hj : j < L.length) : Dead (S.freed (L[j]'hj).1) (D ++ [L[j]'hj]) := by
  have ho := hL.ok _ (List.getElem_mem hj)
  intro p hp
  simp only [Sl.freed, upd]
  rcases List.mem_append.1 hp with hp | hp
  · obtain ⟨h1, h2, h3⟩ := h p hp
    refine ⟨h1, h2, fun e => ?_⟩
    split
    · rfl
    · exact h3 e
  · have e : p = L[j]'hj := by simpa using hp
    rw [e]
    exact ⟨ho.1, by omega, fun _ => by simp⟩

structure CI (n k : Nat) (r : Int) (S : Sl) (L D : List (Nat × Int)) : Prop where
  inv : S.Inv
  bd : S.Bd k
  n : S.n = n
  r : S.res = r
  lv : Lives S L
  dd : Dead S D
  dl : D.length ≤ k
theorem CI.start {n : Nat} {r : Int} (h1 : 1 ≤ n) (h2 : n ≤ 4096) : CI n 0 r (Sl.new n r) [] [] :=
  ⟨Sl.Inv.new r h1 h2, Sl.Bd.new n r, rfl, rfl, Lives.new n r, fun p hp => by simp at hp, Nat.le_refl _⟩
theorem CI.skip {n k : Nat} {r : Int} {S : Sl} {L D : List (Nat × Int)} (h : CI n k r S L D) : CI n (k + 1) r S L D := ⟨h.inv, h.bd.more (by omega), h.n, h.r, h.lv, h.dd, by have := h.dl; omega⟩
theorem CI.take {n k : Nat} {r : Int} {S : Sl} {L D : List (Nat × Int)} (h : CI n k r S L D) {c v : Int} (h1 : 1 ≤ c) (h4 : c ≤ 4) (hm : 0 < S.m) :
    CI n (k + 1) r (S.taken c v) (L ++ [(S.fr (S.m - 1), S.tn (S.fr (S.m - 1)) + 1)]) D :=
  ⟨h.inv.taken c v h1 h4 hm, by have := h.bd.taken c v; exact_mod_cast this, h.n, h.r, h.lv.take h.inv h.bd h1 hm, h.dd.take, by have := h.dl; omega⟩
theorem CI.free {n k : Nat} {r : Int} {S : Sl} {L D : List (Nat × Int)} (h : CI n k r S L D) {j : Nat} (hj : j < L.length) :
    CI n (k + 1) r (S.freed (L[j]'hj).1) (L.eraseIdx j) (D ++ [L[j]'hj]) := by
  have ho := h.lv.ok _ (List.getElem_mem hj)
  exact ⟨h.inv.freed _ ho.1 ho.2.1 (h.lv.room (by omega)), by have := h.bd.freed (L[j]'hj).1; exact_mod_cast this, h.n, h.r, h.lv.free hj, h.dd.free h.lv hj, by have := h.dl; simp; omega⟩

/-- In memory. -/
structure CM (W w : World) (sb lb fb cap xb : Nat) (x0 x1 : Int) (S : Sl) (L : List (Nat × Int)) (A : Option Addr) (d : Nat) (D : List (Nat × Int)) (A2 : Option Addr) (d2 : Nat) : Prop where
  at_ : At w sb lb fb cap S
  own : OwnsH w W.heap.size A d L
  own2 : OwnsH w W.heap.size A2 d2 D
  ne : ∀ b, (Value.slice A L.length d).ownBlock = some b → (Value.slice A2 D.length d2).ownBlock ≠ some b
  xr : w.rowIs xb 41 2 (hF x0 x1)
  bl : Below W.heap.size W w
  b1 : W.heap.size ≤ sb
  b2 : W.heap.size ≤ lb
  b3 : W.heap.size ≤ fb
section
variable {W w w2 w3 : World} {sb lb fb cap xb : Nat} {x0 x1 : Int} {S S' : Sl} {L : List (Nat × Int)} {A : Option Addr} {d : Nat} {D : List (Nat × Int)} {A2 : Option Addr} {d2 : Nat}
theorem CM.hin (h : CM W w sb lb fb cap xb x0 x1 S L A d D A2 d2) : ∀ b ∈ [sb, lb, fb], W.heap.size ≤ b := by
  simp
  exact ⟨h.b1, h.b2, h.b3⟩
theorem CM.quiet (h : CM W w sb lb fb cap xb x0 x1 S L A d D A2 d2) (ho : Only [] w w2) : CM W w2 sb lb fb cap xb x0 x1 S L A d D A2 d2 :=
  ⟨h.at_.only0 ho, h.own.only ho (by simp), h.own2.only ho (by simp), h.ne, ho.row h.xr (by simp), Only.to_below h.bl ho (by simp) h.bl.size, h.b1, h.b2, h.b3⟩
theorem CM.step (h : CM W w sb lb fb cap xb x0 x1 S L A d D A2 d2) (hA : At w2 sb lb fb cap S') (ho : Only [sb, lb, fb] w w2) : CM W w2 sb lb fb cap xb x0 x1 S' L A d D A2 d2 := by
  have h1 := row_ne h.xr h.at_.hd (by decide)
  have h2 := row_ne h.xr h.at_.sl (by decide)
  have h3 : xb ≠ fb := fun e => by
    obtain ⟨g, hg, _⟩ := h.at_.fr
    exact row_ne h.xr hg (by decide) e
  exact ⟨hA, h.own.only ho (h.own.notin h.at_), h.own2.only ho (h.own2.notin h.at_), h.ne, ho.row h.xr (by simp [h1, h2, h3]), Only.to_below h.bl ho h.hin h.bl.size, h.b1, h.b2, h.b3⟩
theorem CM.push (h : CM W w sb lb fb cap xb x0 x1 S L A d D A2 d2) {i : Nat} {t : Int} {v' : Value}
    (hown : w2.ownsRow W.heap.size 32 2 v' (L.length + 1) (hs L ++ [.int .i64 i, .int .i64 t])) (hg : w.grownBy w2 (Value.ownBlock (.slice A L.length d)))
    (hloc : v'.ownBlock = Value.ownBlock (.slice A L.length d) ∨ v'.ownBlock = some w.heap.size) :
    ∃ A' d', v' = .slice A' (L.length + 1) d' ∧ CM W w2 sb lb fb cap xb x0 x1 S (L ++ [(i, t)]) A' d' D A2 d2 := by
  obtain ⟨A', d', rfl⟩ := owns_form hown
  refine ⟨A', d', rfl, ?_⟩
  have hg' := only_grown hg
  have hin : ∀ b, b ∈ (Value.ownBlock (.slice A L.length d)).toList → Value.ownBlock (.slice A L.length d) = some b := fun b hb => by simpa [Option.mem_toList] using hb
  have hnot : ∀ b ∈ [sb, lb, fb], b ∉ (Value.ownBlock (.slice A L.length d)).toList := fun b hb hb2 => h.own.notin h.at_ b (hin b hb2) hb
  have hx := owns_row_ne h.own h.xr (by decide)
  refine ⟨h.at_.only hg' (hnot _ (by simp)) (hnot _ (by simp)) (hnot _ (by simp)), ?_, h.own2.only hg' (fun b hb hb' => h.ne b (hin b hb') hb), ?_, hg'.row h.xr (fun hb => hx xb (hin xb hb) rfl), ?_, h.b1, h.b2, h.b3⟩
  · unfold OwnsH
    rw [hs_append, List.length_append]
    exact hown
  · rw [List.length_append]
    intro b hb hb2
    have hb' : (Value.slice A' (L.length + 1) d').ownBlock = some b := hb
    rcases hloc with hl | hl
    · exact h.ne b (by rw [← hl]; exact hb') hb2
    · rw [hl] at hb'
      injection hb' with hb'
      have := (World.ownsRow.lt h.own2 b hb2).2
      omega
  · exact h.bl.grown hg h.bl.size (fun b hb => (h.own.lt b hb).1)
theorem CM.push2 (h : CM W w sb lb fb cap xb x0 x1 S L A d D A2 d2) {i : Nat} {t : Int} {v' : Value}
    (hown : w2.ownsRow W.heap.size 32 2 v' (D.length + 1) (hs D ++ [.int .i64 i, .int .i64 t])) (hg : w.grownBy w2 (Value.ownBlock (.slice A2 D.length d2)))
    (hloc : v'.ownBlock = Value.ownBlock (.slice A2 D.length d2) ∨ v'.ownBlock = some w.heap.size) :
    ∃ A' d', v' = .slice A' (D.length + 1) d' ∧ CM W w2 sb lb fb cap xb x0 x1 S L A d (D ++ [(i, t)]) A' d' := by
  obtain ⟨A', d', rfl⟩ := owns_form hown
  refine ⟨A', d', rfl, ?_⟩
  have hg' := only_grown hg
  have hin : ∀ b, b ∈ (Value.ownBlock (.slice A2 D.length d2)).toList → Value.ownBlock (.slice A2 D.length d2) = some b := fun b hb => by simpa [Option.mem_toList] using hb
  have hnot : ∀ b ∈ [sb, lb, fb], b ∉ (Value.ownBlock (.slice A2 D.length d2)).toList := fun b hb hb2 => h.own2.notin h.at_ b (hin b hb2) hb
  have hx := owns_row_ne h.own2 h.xr (by decide)
  refine ⟨h.at_.only hg' (hnot _ (by simp)) (hnot _ (by simp)) (hnot _ (by simp)), h.own.only hg' (fun b hb hb' => h.ne b hb (hin b hb')), ?_, ?_, hg'.row h.xr (fun hb => hx xb (hin xb hb) rfl), ?_, h.b1, h.b2, h.b3⟩
  · unfold OwnsH
    rw [hs_append, List.length_append]
    exact hown
  · rw [List.length_append]
    intro b hb hb2
    have hb' : (Value.slice A' (D.length + 1) d').ownBlock = some b := hb2
    rcases hloc with hl | hl
    · exact h.ne b hb (by rw [← hl]; exact hb')
    · rw [hl] at hb'
      injection hb' with hb'
      have := (World.ownsRow.lt h.own b hb).2
      omega
  · exact h.bl.grown hg h.bl.size (fun b hb => (h.own2.lt b hb).1)
theorem CM.erase (h : CM W w sb lb fb cap xb x0 x1 S L A d D A2 d2) {v1 v2 : Value} {j : Nat} (hj : j < L.length)
    (hg1 : w.grownBy w2 none) (ho1 : w2.ownsRow W.heap.size 32 2 v1 j ((hs L).take (j * 2)))
    (hloc : v1.ownBlock = none ∨ v1.ownBlock = some w.heap.size) (hg2 : w2.grownBy w3 v1.ownBlock)
    (ho2 : w3.ownsRow W.heap.size 32 2 v2 (j + (L.length - (j + 1))) ((hs L).take (j * 2) ++ (hs L).drop ((j + 1) * 2))) (hloc2 : v2.ownBlock = v1.ownBlock ∨ v2.ownBlock = some w2.heap.size) :
    ∃ A' d', v2 = .slice A' (L.eraseIdx j).length d' ∧ CM W w3 sb lb fb cap xb x0 x1 S (L.eraseIdx j) A' d' D A2 d2 := by
  obtain ⟨A', d', rfl⟩ := owns_form ho2
  have hlen : (L.eraseIdx j).length = j + (L.length - (j + 1)) := by rw [List.length_eraseIdx_of_lt hj]; omega
  refine ⟨A', d', by rw [hlen], ?_⟩
  have hb2 : ∀ b, v1.ownBlock = some b → w.heap.size ≤ b := fun b hb => by
    rcases hloc with h0 | h0
    · rw [h0] at hb; cases hb
    · rw [h0] at hb; cases hb; exact Nat.le_refl _
  have hk2 : Only [] w w3 := by
    refine ⟨hg2.os.trans hg1.os, hg2.tape.trans hg1.tape, hg2.output.trans hg1.output, Nat.le_trans hg1.size hg2.size, fun i hi _ => ?_⟩
    rw [hg2.block i (Nat.lt_of_lt_of_le hi hg1.size) (fun e => by have := hb2 i e.symm; omega), hg1.block i hi (by simp)]
  have hq := h.quiet hk2
  refine ⟨hq.at_, ?_, hq.own2, ?_, hq.xr, hq.bl, h.b1, h.b2, h.b3⟩
  · unfold OwnsH
    rw [hs_erase, hlen]
    exact ho2
  · rw [hlen]
    intro b hb hb2'
    have hlt := (World.ownsRow.lt h.own2 b hb2').2
    have hb' : (Value.slice A' (j + (L.length - (j + 1))) d').ownBlock = some b := hb
    rcases hloc2 with hl | hl
    · rw [hl] at hb'
      have := hb2 b hb'
      omega
    · rw [hl] at hb'
      injection hb' with hb'
      have := hg1.size
      omega
end
theorem take_okI {w : World} {sb lb fb cap : Nat} {S : Sl} {c v K : Int} {u : Bool} (hA : At w sb lb fb cap S) (hI : S.Inv) (hB : S.Bd K) (hK : K ≤ 1000000) (h1 : 1 ≤ c) (h4 : c ≤ 4)
    (hm : 0 < S.m) (hu : u = true ∨ S.res < S.m) :
    Calls Try.prog 9 #[.pointer (some ⟨sb, 0, none⟩), .int .i64 c, .bool u, .int .i64 v] w fun e w' =>
      e = .returned (.tuple #[.agg #[.int .i64 (S.fr (S.m - 1) : Int), .int .i64 (S.tn (S.fr (S.m - 1)) + 1)], .int .i64 0]) ∧ At w' sb lb fb cap (S.taken c v) ∧ Only [sb, lb, fb] w w' := by
  obtain ⟨q, rfl⟩ : ∃ q : Nat, c = (q : Int) := ⟨c.toNat, by omega⟩
  exact take_ok (k := q) hA hI hB hK (by omega) (by omega) hm hu
end Go.Proofs.Ytegnbodolkaelaa
