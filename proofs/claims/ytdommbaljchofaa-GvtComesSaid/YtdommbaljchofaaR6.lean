/-
  The contract of the reference's Acked: the walk.
-/
import Derived.Test.YtdommbaljchofaaR5
import Derived.Deep.DeepCutAuto
import Derived.Deep.LoopGhost
namespace Go.Proofs.Ytdommbaljchofaa
open Go.RowKit Go.Deep
set_option linter.unusedVariables false

theorem owned_ge {w : World} {base : Nat} {e : TypeId} {size : Nat} {v : Value} {n : Nat} {xs : List Value} (h : w.ownsRow base e size v n xs) : ∀ g, v.ownBlock = some g → base ≤ g := by
  intro g hg
  rcases h.2 with ⟨rfl, _⟩ | ⟨g', cap, cur, rfl, hb, hgg, _⟩
  · simp [Value.ownBlock] at hg
  · simp [Value.ownBlock] at hg
    subst hg
    exact hb
theorem Only.grown_new {s : List Nat} {a b c : World} {v : Value} (h : Only s a b) (hg : b.grownBy c v.ownBlock) (hn : ∀ g, v.ownBlock = some g → a.heap.size ≤ g) : Only s a c := by
  have k := only_grown hg
  refine ⟨k.os.trans h.os, k.tape.trans h.tape, k.output.trans h.output, Nat.le_trans h.size k.size, fun i hi hs => ?_⟩
  rw [k.block i (Nat.lt_of_lt_of_le hi h.size) (fun hm => ?_), h.block i hi hs]
  simp only [Option.mem_toList] at hm
  have := hn i hm
  omega

section
variable {w : World} {B wb : Nat} {A1 A2 : Option Addr} {c1 c2 : Nat} {rd lo no mark : Int} {M : List (Int × Int)}
theorem racked_none (h : RAt w B wb A1 A2 c1 c2 rd lo M) (hM : M.length ≤ 1000) (hc : ackedCode M rd no mark ≠ 0) (h0 : 0 ≤ rd) (hr : rd ≤ 1000000) :
    Calls Try.prog 35 #[.pointer (some ⟨wb, 0, none⟩), .int .i64 no, .int .i64 mark] w fun e w' => e = .returned (.int .i64 (ackedCode M rd no mark)) ∧ w = w' := by
  have k2 := h.k2
  have hlt := h.lt
  by_cases h1 : M.any (fun p => p.1 == no) = true
  · have HM := hide (any_mem.1 h1)
    have H := hide h
    by_cases h2 : mark < 0
    · have e : ackedCode M rd no mark = 10 := by simp only [ackedCode]; rw [if_pos h1, if_pos (.inl h2)]
      rw [e]
      clear e hc h h1
      go_enter Try.func35, Try.ntmps35
      go_wp2_with fail
      refine (place_any (unhide H).kno (unhide H).lt (unhide H).no.ints (by simp; omega)).mono ?_
      rintro e w' ⟨⟨r, rfl, hr⟩, rfl⟩
      rcases hr with ⟨rfl, hr⟩ | ⟨j, hj, rfl, hr⟩
      · exact absurd (unhide HM) hr
      · clear hr
        go_wp2_with fail
        go_ret
        exact ⟨rfl, rfl⟩
    · have h3 : rd + 1 < mark := by
        by_cases h3 : rd + 1 < mark
        · exact h3
        · exact absurd (show ackedCode M rd no mark = 0 by simp only [ackedCode]; rw [if_pos h1, if_neg (by omega)]) hc
      have e : ackedCode M rd no mark = 10 := by simp only [ackedCode]; rw [if_pos h1, if_pos (.inr h3)]
      rw [e]
      clear e hc h h1
      go_enter Try.func35, Try.ntmps35
      go_wp2_with fail
      refine (place_any (unhide H).kno (unhide H).lt (unhide H).no.ints (by simp; omega)).mono ?_
      rintro e w' ⟨⟨r, rfl, hr⟩, rfl⟩
      rcases hr with ⟨rfl, hr⟩ | ⟨j, hj, rfl, hr⟩
      · exact absurd (unhide HM) hr
      · clear hr
        go_wp2_with fail
        go_ret
        exact ⟨rfl, rfl⟩
  · have e : ackedCode M rd no mark = 14 := by simp only [ackedCode]; rw [if_neg h1]
    rw [e]
    have HM : Hid (no ∉ M.map (·.1)) := fun hm => h1 (any_mem.2 hm)
    have H := hide h
    clear e hc h h1
    go_enter Try.func35, Try.ntmps35
    go_wp2_with fail
    refine (place_any (unhide H).kno (unhide H).lt (unhide H).no.ints (by simp; omega)).mono ?_
    rintro e w' ⟨⟨r, rfl, hr⟩, rfl⟩
    rcases hr with ⟨rfl, hr⟩ | ⟨j, hj, rfl, hr⟩
    · clear hr
      go_wp2_with fail
      go_ret
      exact ⟨rfl, rfl⟩
    · exact absurd (by rw [← hr]; exact List.getElem_mem hj) (unhide HM)
end
end Go.Proofs.Ytdommbaljchofaa
