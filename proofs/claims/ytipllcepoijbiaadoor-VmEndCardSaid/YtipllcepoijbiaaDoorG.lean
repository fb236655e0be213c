/-
  What a step turns: a machine's place, one of its numbers, what it sent.
-/
import Derived.Test.YtipllcepoijbiaaDoorF
namespace Go.Proofs.YtipllcepoijbiaaDoor
open Go.RowKit Go.Deep
set_option linter.unusedVariables false

theorem own_ge {w : World} {base : Nat} {e : TypeId} {size : Nat} {v : Value} {n : Nat} {xs : List Value} (h : w.ownsRow base e size v n xs) : ∀ k, v.ownBlock = some k → base ≤ k := by
  intro k hk
  rcases h.2 with ⟨rfl, _⟩ | ⟨g, cap, cur, rfl, hb, _⟩
  · simp [Value.ownBlock] at hk
  · simp [Value.ownBlock] at hk
    omega
theorem own_lt {w : World} {base : Nat} {e : TypeId} {size : Nat} {v : Value} {n : Nat} {xs : List Value} (h : w.ownsRow base e size v n xs) : ∀ k, v.ownBlock = some k → k < w.heap.size := by
  intro k hk
  rcases h.2 with ⟨rfl, _⟩ | ⟨g, cap, cur, rfl, hb, hg, _⟩
  · simp [Value.ownBlock] at hk
  · simp [Value.ownBlock] at hk
    subst hk
    exact (Array.getElem?_eq_some_iff.1 hg).1
section
variable {w w' : World} {mb : Nat} {e : Nat → Int} {pv : Value} {fan : Int} {cs : Nat → Int} {pl : Int} {sv : Value}
theorem MAt.set17 (h : MAt w mb e pv fan cs pl sv) (k : Int) : MAt (w.setCell ⟨mb, 17, none⟩ (.int .i64 k)) mb e pv fan cs k sv := by
  refine (World.rowIs.set h 17 _).congr fun i hi => ?_
  simp only [mrow]
  by_cases h17 : i = 17
  · subst h17; rfl
  · rw [if_neg h17]
    by_cases h18 : i = 18
    · subst h18; rfl
    · simp only [if_neg h17, if_pos (show i < 17 by omega)]
theorem MAt.set18 (h : MAt w mb e pv fan cs pl sv) (k : Value) : MAt (w.setCell ⟨mb, 18, none⟩ k) mb e pv fan cs pl k := by
  refine (World.rowIs.set h 18 _).congr fun i hi => ?_
  simp only [mrow]
  by_cases h18 : i = 18
  · subst h18; rfl
  · rw [if_neg h18]
    by_cases h17 : i = 17
    · subst h17; rfl
    · simp only [if_neg h17, if_pos (show i < 17 by omega)]
theorem MAt.setn (h : MAt w mb e pv fan cs pl sv) {j : Nat} (hj : j < 8) (z : Int) : MAt (w.setCell ⟨mb, 9 + j, none⟩ (.int .i64 z)) mb e pv fan (fun i => if i = j then z else cs i) pl sv := by
  refine (World.rowIs.set h (9 + j) _).congr fun i hi => ?_
  simp only [mrow]
  by_cases hij : i = 9 + j
  · subst hij
    rw [if_pos rfl, if_neg (by omega), if_neg (by omega), if_neg (by omega), if_pos (by omega), if_pos (by omega)]
  · rw [if_neg hij]
    by_cases h7 : i < 7
    · simp [h7]
    by_cases h77 : i = 7
    · simp [h77]
    by_cases h8 : i = 8
    · simp [h8]
    by_cases h17 : i < 17
    · have hne : i - 9 ≠ j := by omega
      simp [hne]
    · simp [h17]
end
section
variable {w w' : World} {mb : Nat} {e : Nat → Int} {A : Option Addr} {cap : Nat} {p : List I} {fan : Int} {cs : Nat → Int} {pl : Nat} {L : List Em} {sv : Value}
/-- The machine's own block has turned. -/
theorem SAt.turned {s s' : S} (h : SAt w mb e A cap p fan s sv) (k : Only [mb] w w') (hL : s'.L = s.L) (hm : MAt w' mb e (.slice A p.length cap) fan s'.cs (s'.pl : Int) sv) : SAt w' mb e A cap p fan s' sv := by
  refine ⟨hm, h.p.only k (fun a ha => ?_), h.pb, ?_, h.t.only k (by simpa using fun e : 0 = mb => by have := h.t0; omega), h.t0⟩
  · have := h.pb a ha
    simp; omega
  · rw [hL]
    refine k.owns h.l fun i hi => ?_
    have := own_ge h.l i hi
    simp; omega
theorem SAt.at17 (h : SAt w mb e A cap p fan ⟨cs, pl, L⟩ sv) (k : Nat) : SAt (w.setCell ⟨mb, 17, none⟩ (.int .i64 (k : Int))) mb e A cap p fan ⟨cs, k, L⟩ sv :=
  h.turned ((Only.refl [mb] w).setIn (by simp) _) rfl (h.m.set17 _)
theorem SAt.num (h : SAt w mb e A cap p fan ⟨cs, pl, L⟩ sv) {j : Nat} (hj : j < 8) (z : Int) : SAt (w.setCell ⟨mb, 9 + j, none⟩ (.int .i64 z)) mb e A cap p fan ⟨fun i => if i = j then z else cs i, pl, L⟩ sv :=
  h.turned ((Only.refl [mb] w).setIn (by simp) _) rfl (h.m.setn hj z)
theorem SAt.push (h : SAt w mb e A cap p fan ⟨cs, pl, L⟩ sv) (k0 : Only [] w w') {w3 : World} {sv' : Value} (x : Em) (hown : w3.ownsRow (mb + 1) 38 4 sv' (L.length + 1) (L.flatMap Em.cells ++ x.cells)) (hgrow : w'.grownBy w3 sv.ownBlock) :
    (∃ ob : List Nat, Only ob w w3 ∧ ∀ k ∈ ob, sv.ownBlock = some k) ∧ SAt (w3.setCell ⟨mb, 18, none⟩ sv') mb e A cap p fan ⟨cs, pl, L ++ [x]⟩ sv' := by
  have hge := own_ge h.l
  have hge' := own_ge hown
  obtain ⟨ob, hob⟩ : ∃ ob, (match sv.ownBlock with | some b => [b] | none => []) = ob := ⟨_, rfl⟩
  have hin' : ∀ k ∈ ob, sv.ownBlock = some k := by
    intro k hk
    rw [← hob] at hk
    cases hs : sv.ownBlock with
    | none => rw [hs] at hk; simp at hk
    | some b => rw [hs] at hk; simp at hk; rw [hk]
  have hin : ∀ k ∈ ob, mb + 1 ≤ k := fun k hk => hge k (hin' k hk)
  have hO : Only ob w w3 := (k0.mono (by simp)).trans (Only.of_grown hgrow (fun k hk => .inl (by rw [← hob, hk]; simp)))
  have hne : ∀ k, k ≤ mb → k ∉ ob := fun k hk hm => by have := hin k hm; omega
  refine ⟨⟨ob, hO, hin'⟩, ?_⟩
  have hM := (h.m.only hO (hne _ (Nat.le_refl _))).set18 sv'
  have hS : Only [mb] w3 (w3.setCell ⟨mb, 18, none⟩ sv') := (Only.refl [mb] w3).setIn (by simp) _
  refine ⟨hM, (h.p.only hO (fun a ha => hne _ (by have := h.pb a ha; omega))).only hS (fun a ha => by have := h.pb a ha; simp; omega), h.pb, ?_, (h.t.only hO (hne _ (by have := h.t0; omega))).only hS (by have := h.t0; simp; omega), h.t0⟩
  have := hS.owns hown (fun i hi => by have := hge' i hi; simp; omega)
  simpa [List.flatMap_append] using this
end
end Go.Proofs.YtipllcepoijbiaaDoor
