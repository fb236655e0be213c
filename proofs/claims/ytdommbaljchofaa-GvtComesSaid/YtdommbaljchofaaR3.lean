/-
  The contract of the reference's Sent: a message that is taken.
-/
import Derived.Test.YtdommbaljchofaaR2
namespace Go.Proofs.Ytdommbaljchofaa
open Go.RowKit Go.Deep
set_option linter.unusedVariables false

theorem owned_lt {w : World} {base : Nat} {e : TypeId} {size : Nat} {v : Value} {n : Nat} {xs : List Value} (h : w.ownsRow base e size v n xs) : ∀ g, v.ownBlock = some g → g < w.heap.size := by
  intro g hg
  rcases h.2 with ⟨rfl, _⟩ | ⟨g', cap, cur, rfl, _, hgg, _⟩
  · simp [Value.ownBlock] at hg
  · simp [Value.ownBlock] at hg
    subst hg
    exact (Array.getElem?_eq_some_iff.1 hgg).1
section
variable {w : World} {B wb : Nat} {A1 A2 : Option Addr} {c1 c2 : Nat} {rd lo no at_ : Int} {M : List (Int × Int)}
set_option maxHeartbeats 2000000 in
theorem rsent_ok (h : RAt w B wb A1 A2 c1 c2 rd lo M) (hB : B ≤ w.heap.size) (hM : M.length ≤ 1000) (hc : sentCode M no at_ = 0) :
    Calls Try.prog 34 #[.pointer (some ⟨wb, 0, none⟩), .int .i64 no, .int .i64 at_] w fun e w' => e = .returned (.int .i64 0) ∧ ∃ A1' A2' c1' c2', RAt w' B wb A1' A2' c1' c2' rd lo (M ++ [(no, at_)]) ∧ Only (fp wb A1 A2 M.length c1 c2) w w' := by
  obtain ⟨i0, hi, hz0, hz1, hz2⟩ := info_parts Try.info3'
  have h1 : ¬ no < 0 := fun h1 => by simp [sentCode, h1] at hc
  have h2 : IsTime at_ := by
    by_cases h2 : IsTime at_
    · exact h2
    · simp only [sentCode] at hc; rw [if_neg h1, if_neg h2] at hc; omega
  have h3 : no ∉ M.map (·.1) := by
    intro h3
    simp only [sentCode] at hc
    rw [if_neg h1, if_pos h2, if_pos (any_mem.2 h3)] at hc
    omega
  have HT : Hid (decide (IsTime at_) = true) := by show decide (IsTime at_) = true; simpa using h2
  have HM := hide h3
  have H := hide h
  have k0 := h.k0
  have z0 := h.z 0
  have hlt := h.lt
  clear hc h h2 h3
  go_enter Try.func34, Try.ntmps34
  go_wp2_with (first | (go_at_call 43; refine (rtime_any _).mono ?_; rintro e w' ⟨rfl, rfl⟩; rw [unhide HT]))
  refine (place_any (unhide H).kno (unhide H).lt (unhide H).no.ints (by simp; omega)).mono ?_
  rintro e w' ⟨⟨r, rfl, hr⟩, rfl⟩
  rcases hr with ⟨rfl, hr⟩ | ⟨j, hj, rfl, hr⟩
  · clear hr
    have hno := (unhide H).no
    unfold OwnsI at hno
    simp only [List.length_map, List.map_map] at hno
    have HN := hide hno
    clear hno
    go_wp2_with (at_builtin; refine wpList_append_own_at _ rfl (.tmp 20) (.tmp 22) 28 rfl B 3 i0 (.int .i64 0) 1 8 Try.underlying28 hi hz0 hz1 hz2 rfl (by decide) _ _ _ rfl ((unhide HN).alloc _) ⟨w.heap.size, 0, none⟩ 1 1 [.int .i64 no] rfl rfl ?c1 ?c2 ?c3 ?c4 ?c5 ?_)
    case c1 => exact new_cells _ #[.int .i64 no] 3 _ rfl
    case c2 => intro u hu; simp at hu; rw [hu]; rfl
    case c3 => unfold maxLen; omega
    case c4 => omega
    case c5 => simp; omega
    intro v1 w3 hown1 hgrow1 _ hloc1
    obtain ⟨A1', c1', rfl⟩ := owns_form hown1
    have hwn : wb ∉ ob A1 M.length c1 := fun hb => owns_row_ne (unhide HN) (unhide H).hd (by decide) wb (by simpa [ob] using hb) rfl
    have hk : Only (ob A1 M.length c1) w w3 := (((Only.refl [] w).alloc _).mono (by simp)).trans (only_grown hgrow1)
    have hd3 := hk.row (unhide H).hd hwn
    have ho3 := hk.owns (unhide H).at_ (fun b hb hb2 => by
      simp only [List.length_map] at hb
      exact (unhide H).ne b (by simpa [ob] using hb2) hb)
    have hne3 : ∀ g, (Value.slice A1' (M.length + 1) c1').ownBlock = some g → (Value.slice A2 M.length c2).ownBlock ≠ some g := by
      intro g hg hg2
      rcases hloc1 with e | e
      · exact (unhide H).ne g (by rw [← e]; exact hg) hg2
      · have := owned_lt (unhide H).at_ g (by simpa [List.length_map] using hg2)
        rw [e] at hg
        injection hg with hg
        omega
    have q0 : w3.cell? ⟨wb, 0, none⟩ = some (.slice A1 M.length c1) := hd3.cell (show 0 < 4 by omega)
    have q1 : w3.cell? ⟨wb, 1, none⟩ = some (.slice A2 M.length c2) := hd3.cell (show 1 < 4 by omega)
    have y0 := hd3.frozen 0
    have y1 := hd3.frozen 1
    have ylt := hd3.lt
    have hfar : (Value.slice A2 M.length c2).ownBlock ≠ some wb := fun e => owns_row_ne (unhide H).at_ (unhide H).hd (by decide) wb (by simpa [List.length_map] using e) rfl
    simp only [List.length_map, List.map_map] at ho3
    have HFAR := hide hfar
    clear hfar
    have HK := hide hk
    have HD3 := hide hd3
    have HO3 := hide ho3
    have HNE := hide hne3
    have HW1 := hide hown1
    have hsz : w.heap.size ≤ w3.heap.size := hk.size
    clear hk hd3 ho3 hne3 hown1 hgrow1 hloc1 hwn k0 z0
    go_wp2_with (at_builtin; refine wpList_append_own_at _ rfl (.tmp 30) (.tmp 32) 28 rfl B 3 i0 (.int .i64 0) 1 8 Try.underlying28 hi hz0 hz1 hz2 rfl (by decide) _ _ _ rfl ((own_far (unhide HO3) (unhide HFAR) _).alloc _) ⟨w3.heap.size, 0, none⟩ 1 1 [.int .i64 at_] rfl rfl ?c1 ?c2 ?c3 ?c4 ?c5 ?_)
    case c1 => exact new_cells _ #[.int .i64 at_] 3 _ (by simp)
    case c2 => intro u hu; simp at hu; rw [hu]; rfl
    case c3 => unfold maxLen; omega
    case c4 => omega
    case c5 => simp; omega
    intro v2 w5 hown2 hgrow2 _ hloc2
    obtain ⟨A2', c2', rfl⟩ := owns_form hown2
    have hwn2 : wb ∉ ob A2 M.length c2 := fun hb => unhide HFAR (by simpa [ob] using hb)
    have hk5 : Only (ob A2 M.length c2) ((w3.setCell ⟨wb, 0, none⟩ (.slice A1' (M.length + 1) c1')).alloc (.cells #[.int .i64 at_] 3)) w5 := only_grown hgrow2
    have hwf : (Value.slice A1' (M.length + 1) c1').ownBlock ≠ some wb := fun e => owns_row_ne (unhide HW1) (unhide HD3) (by decide) wb e rfl
    have hd5 := hk5.row (((unhide HD3).set 0 (.slice A1' (M.length + 1) c1')).alloc _) hwn2
    have hn5 := hk5.owns ((own_far (unhide HW1) hwf (.slice A1' (M.length + 1) c1') (o := 0)).alloc _) (fun b hb hb2 => (unhide HNE) b hb (by simpa [ob] using hb2))
    have hne5 : ∀ g, (Value.slice A1' (M.length + 1) c1').ownBlock = some g → (Value.slice A2' (M.length + 1) c2').ownBlock ≠ some g := by
      intro g hg hg2
      rcases hloc2 with e | e
      · exact (unhide HNE) g hg (by rw [← e]; exact hg2)
      · have := owned_lt (unhide HW1) g hg
        rw [e] at hg2
        injection hg2 with hg2
        omega
    have hwf2 : (Value.slice A2' (M.length + 1) c2').ownBlock ≠ some wb := by
      intro e
      rcases hloc2 with e2 | e2
      · exact unhide HFAR (by rw [← e2]; exact e)
      · rw [e2] at e
        injection e with e
        omega
    have r1 : w5.cell? ⟨wb, 1, none⟩ = some (.slice A2 M.length c2) := hd5.cell (show 1 < 4 by omega)
    have x1 := hd5.frozen 1
    have hlt5 := hd5.lt
    have HD5 := hide hd5
    have HN5 := hide hn5
    have HNE5 := hide hne5
    have HW5 := hide hown2
    have HWF := hide hwf
    have HWF2 := hide hwf2
    have HK5 : Hid (Only (fp wb A1 A2 M.length c1 c2) w w5) := by
      refine (((unhide HK).mono ?_).setIn (by simp [fp]) _).alloc _ |>.trans (hk5.mono ?_)
      · intro i hi; simp [fp, hi]
      · intro i hi; simp [fp, hi]
    clear hd5 hn5 hne5 hown2 hgrow2 hloc2 hwf hwf2 hk5 hwn2 q0 q1 y0 y1
    go_wp2_with fail
    go_ret
    refine ⟨rfl, A1', A2', c1', c2', ⟨?_, ?_, ?_, ?_⟩, ((unhide HK5).setIn (by simp [fp]) _)⟩
    · refine ((unhide HD5).set 1 _).congr fun o ho => ?_
      simp only [rwF, List.length_append, List.length_cons, List.length_nil]
      rcases (show o = 0 ∨ o = 1 ∨ o = 2 ∨ o = 3 by omega) with rfl | rfl | rfl | rfl <;> rfl
    · unfold OwnsI
      simp only [List.map_append, List.length_append, List.length_map, List.map_cons, List.map_nil, List.length_cons, List.length_nil, List.map_map]
      exact own_far (unhide HN5) (unhide HWF) _
    · unfold OwnsI
      simp only [List.map_append, List.length_append, List.length_map, List.map_cons, List.map_nil, List.length_cons, List.length_nil, List.map_map]
      exact own_far (unhide HW5) (unhide HWF2) _
    · simp only [List.length_append, List.length_cons, List.length_nil]
      exact unhide HNE5
  · exact absurd (by rw [← hr]; exact List.getElem_mem hj) (unhide HM)
end
end Go.Proofs.Ytdommbaljchofaa
