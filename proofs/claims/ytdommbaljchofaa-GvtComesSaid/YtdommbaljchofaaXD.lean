/-
  The statements' world: a list without one of its numbers; a round begins.
-/
import Derived.Test.YtdommbaljchofaaXC
namespace Go.Proofs.Ytdommbaljchofaa
open Go.RowKit Go.Deep
set_option linter.unusedVariables false

set_option maxRecDepth 100000 in
set_option maxHeartbeats 4000000 in
theorem without_any {w : World} {B g c i : Nat} {L : List Int} (h : OwnsI w B (some ⟨g, 0, none⟩) c L) (hi : i < L.length) (hL : L.length ≤ 1000000) :
    Calls Try.prog 46 #[.slice (some ⟨g, 0, none⟩) L.length c, .int .i64 i] w fun e w' => ∃ A' c', e = .returned (.slice A' (L.eraseIdx i).length c') ∧ OwnsI w' w.heap.size A' c' (L.eraseIdx i) ∧ Only [] w w' := by
  obtain ⟨i0, hi0, hz0, hz1, hz2⟩ := info_parts Try.info3'
  have hc : L.length ≤ c := by
    obtain ⟨_, _, _, hc, _⟩ := own_at (A := some ⟨g, 0, none⟩) (c := c) (n := L.length) (by simpa [OwnsI] using h) (by omega)
    exact hc
  have hI := h.ints
  have hI1 : IntsAt w (some ⟨g, 0, none⟩) (L.take i) := by
    intro j hj
    simp at hj
    obtain ⟨b, off, e, hlt, hcc⟩ := hI j (by omega)
    exact ⟨b, off, e, hlt, by rw [List.getElem_take]; exact hcc⟩
  obtain ⟨T, hT⟩ : ∃ T, L.take i = T := ⟨_, rfl⟩
  obtain ⟨D, hD⟩ : ∃ D, L.drop (i + 1) = D := ⟨_, rfl⟩
  have e1 : T.length = i := by rw [← hT]; simp; omega
  have e2 : D.length = L.length - (i + 1) := by rw [← hD]; simp
  have HTD : Hid (L.eraseIdx i = T ++ D) := by
    show L.eraseIdx i = T ++ D
    rw [← hT, ← hD, List.eraseIdx_eq_take_drop_succ]
  rw [hT] at hI1
  have HI := hide hI
  have HI1 := hide hI1
  have HD := hide hD
  have HE1 := hide e1
  have HE2 := hide e2
  have hTl : T.length ≤ 1000000 := by omega
  have hDl : D.length ≤ 1000000 := by omega
  clear h hI hI1 e1 e2 hT hD
  go_enter Try.func46, Try.ntmps46
  go_wp2_with (at_builtin; refine wpList_append_ints _ rfl (.tmp 6) (.tmp 9) 28 rfl w.heap.size 3 i0 (.int .i64 0) 8 Try.underlying28 hi0 hz0 hz1 hz2 rfl _ _ _ rfl (World.ownsRow_nil _ _ _ _) (some ⟨g, 0, none⟩) c T (by rw [unhide HE1]; rfl) (unhide HI1) (by unfold maxLen; omega) (by omega) (Nat.le_refl _) ?_)
  intro v1 w1 hown1 hgrow1
  obtain ⟨N1, d1', rfl⟩ := owns_form hown1
  have hO1 : Only [] w w1 := (Only.refl [] w).grown_new (v := .slice none 0 0) hgrow1 (by simp [Value.ownBlock])
  have HI2 : Hid (IntsAt w1 (some ⟨g, i + 1, none⟩) D) := by
    intro j hj
    have hj' := hj
    rw [unhide HE2] at hj'
    obtain ⟨b, off, e, hlt, hcc⟩ := ((unhide HI).only0 hO1) (i + 1 + j) (by omega)
    injection e with e
    injection e with e e3
    subst e e3
    refine ⟨g, i + 1, rfl, hlt, ?_⟩
    have : D[j]'hj = L[i + 1 + j]'(by omega) := by
      have := unhide HD
      subst this
      simp
    rw [this]
    simpa using hcc
  have HO1 := hide hO1
  have HN1 := hide hown1
  have hs1 := hO1.size
  clear hO1 hown1 hgrow1
  by_cases hci : c = i + 1
  · subst hci
    obtain rfl : D = [] := List.eq_nil_of_length_eq_zero (by have := unhide HE2; omega)
    have HI3 : Hid (IntsAt w1 (some ⟨g, 0, none⟩) []) := fun j hj => absurd hj (by simp)
    go_wp2_with (at_builtin; refine wpList_append_ints _ rfl (.tmp 11) (.tmp 15) 28 rfl w.heap.size 3 i0 (.int .i64 0) 8 Try.underlying28 hi0 hz0 hz1 hz2 rfl _ _ _ rfl (unhide HN1) (some ⟨g, 0, none⟩) 0 [] (by rfl) (unhide HI3) (by unfold maxLen; omega) (by omega) (by omega) ?_)
    intro v2 w2 hown2 hgrow2
    obtain ⟨N2, d2', rfl⟩ := owns_form hown2
    have hO2 : Only [] w w2 := (unhide HO1).grown_new hgrow2 (owned_ge (unhide HN1))
    have HO2 := hide hO2
    have HN2 := hide hown2
    clear hO2 hown2 hgrow2
    go_wp2_with fail
    go_ret
    refine ⟨N2, d2', by rw [unhide HTD, List.length_append]; rfl, ?_, unhide HO2⟩
    rw [unhide HTD]
    unfold OwnsI
    simpa [List.length_append, List.map_append] using unhide HN2
  · have hci' : (c = i + 1) = False := by simp [hci]
    go_wp2_with (at_builtin; refine wpList_append_ints _ rfl (.tmp 11) (.tmp 15) 28 rfl w.heap.size 3 i0 (.int .i64 0) 8 Try.underlying28 hi0 hz0 hz1 hz2 rfl _ _ _ rfl (unhide HN1) (some ⟨g, i + 1, none⟩) (c - (i + 1)) D (by rw [unhide HE2]; rfl) (unhide HI2) (by unfold maxLen; omega) (by omega) (by omega) ?_)
    intro v2 w2 hown2 hgrow2
    obtain ⟨N2, d2', rfl⟩ := owns_form hown2
    have hO2 : Only [] w w2 := (unhide HO1).grown_new hgrow2 (owned_ge (unhide HN1))
    have HO2 := hide hO2
    have HN2 := hide hown2
    clear hO2 hown2 hgrow2
    go_wp2_with fail
    go_ret
    refine ⟨N2, d2', by rw [unhide HTD, List.length_append]; rfl, ?_, unhide HO2⟩
    rw [unhide HTD]
    unfold OwnsI
    simpa [List.length_append, List.map_append] using unhide HN2
end Go.Proofs.Ytdommbaljchofaa
