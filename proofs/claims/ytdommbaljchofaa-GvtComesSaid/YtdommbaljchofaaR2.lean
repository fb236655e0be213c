/-
  The contract of the reference's Sent.
-/
import Derived.Test.YtdommbaljchofaaR
namespace Go.Proofs.Ytdommbaljchofaa
open Go.RowKit Go.Deep
set_option linter.unusedVariables false

theorem new_cells (w : World) (cs : Array Value) (t b : Nat) (hb : w.heap.size = b) : ∀ j u, cs.toList[j]? = some u → (w.alloc (.cells cs t)).cell? ((⟨b, 0, none⟩ : Addr).add j) = some u := by
  subst hb
  exact World.news_of_block (heap_alloc_new w _)
theorem own_far {w : World} {B : Nat} {e : TypeId} {size : Nat} {v : Value} {n : Nat} {xs : List Value} (h : w.ownsRow B e size v n xs) {b o : Nat} (hb : v.ownBlock ≠ some b) (u : Value) : (w.setCell ⟨b, o, none⟩ u).ownsRow B e size v n xs :=
  h.kept (row := some b) ⟨rfl, rfl, rfl, by simp, fun i _ hi => Below.heap_setCell _ _ _ _ (fun e => hi (by rw [e]))⟩ (.inr hb)
theorem only_grown {w w' : World} {v : Value} (hg : w.grownBy w' v.ownBlock) : Only v.ownBlock.toList w w' := Only.of_grown hg (fun k hk => .inl (by simp [hk]))
theorem Try.info3' : (Try.prog.info? 3).map (fun i => (i.zero, i.size, i.bytes)) = some (some (.int .i64 0), 1, 8) := by kernel_rfl

namespace RAt
variable {w w' : World} {B wb : Nat} {A1 A2 : Option Addr} {c1 c2 : Nat} {rd lo : Int} {M : List (Int × Int)}
theorem k0 (h : RAt w B wb A1 A2 c1 c2 rd lo M) : w.cell? ⟨wb, 0, none⟩ = some (.slice A1 M.length c1) := h.hd.cell (by omega)
theorem k1 (h : RAt w B wb A1 A2 c1 c2 rd lo M) : w.cell? ⟨wb, 1, none⟩ = some (.slice A2 M.length c2) := h.hd.cell (by omega)
theorem k2 (h : RAt w B wb A1 A2 c1 c2 rd lo M) : w.cell? ⟨wb, 2, none⟩ = some (.int .i64 rd) := h.hd.cell (by omega)
theorem k3 (h : RAt w B wb A1 A2 c1 c2 rd lo M) : w.cell? ⟨wb, 3, none⟩ = some (.int .i64 lo) := h.hd.cell (by omega)
theorem z (h : RAt w B wb A1 A2 c1 c2 rd lo M) (o : Nat) : w.frozen? ⟨wb, o, none⟩ = false := h.hd.frozen o
theorem lt (h : RAt w B wb A1 A2 c1 c2 rd lo M) : wb < w.heap.size := h.hd.lt
theorem only {s : List Nat} (h : RAt w B wb A1 A2 c1 c2 rd lo M) (k : Only s w w') (hs : ∀ b ∈ fp wb A1 A2 M.length c1 c2, b ∉ s) : RAt w' B wb A1 A2 c1 c2 rd lo M := by
  refine ⟨k.row h.hd (hs _ (by simp [fp])), k.owns h.no (fun b hb => hs b ?_), k.owns h.at_ (fun b hb => hs b ?_), h.ne⟩
  · simp only [List.length_map] at hb
    simp [fp, ob, hb]
  · simp only [List.length_map] at hb
    simp [fp, ob, hb]
theorem only0 (h : RAt w B wb A1 A2 c1 c2 rd lo M) (k : Only [] w w') : RAt w' B wb A1 A2 c1 c2 rd lo M := h.only k (by simp)
end RAt

section
variable {w : World} {B wb : Nat} {A1 A2 : Option Addr} {c1 c2 : Nat} {rd lo no at_ : Int} {M : List (Int × Int)}
theorem any_mem {M : List (Int × Int)} {no : Int} : M.any (fun p => p.1 == no) = true ↔ no ∈ M.map (·.1) := by
  simp [List.any_eq_true, List.mem_map]
theorem RAt.kno (h : RAt w B wb A1 A2 c1 c2 rd lo M) : w.cell? ⟨wb, 0, none⟩ = some (.slice A1 (M.map (·.1)).length c1) := by rw [List.length_map]; exact h.k0
theorem RAt.kat (h : RAt w B wb A1 A2 c1 c2 rd lo M) : w.cell? ⟨wb, 1, none⟩ = some (.slice A2 (M.map (·.2)).length c2) := by rw [List.length_map]; exact h.k1
set_option maxHeartbeats 1000000 in
theorem rsent_bad (h : RAt w B wb A1 A2 c1 c2 rd lo M) (hM : M.length ≤ 1000) (hc : sentCode M no at_ ≠ 0) :
    Calls Try.prog 34 #[.pointer (some ⟨wb, 0, none⟩), .int .i64 no, .int .i64 at_] w fun e w' => e = .returned (.int .i64 (sentCode M no at_)) ∧ w = w' := by
  by_cases h1 : no < 0
  · have e : sentCode M no at_ = 1 := by simp [sentCode, h1]
    rw [e]
    clear e hc h
    go_enter Try.func34, Try.ntmps34
    go_wp2_with fail
    go_ret
    exact ⟨rfl, rfl⟩
  by_cases h2 : IsTime at_
  · have h3 : M.any (fun p => p.1 == no) = true := by
      cases hb : M.any (fun p => p.1 == no) with
      | true => rfl
      | false => exact absurd (show sentCode M no at_ = 0 by simp only [sentCode]; rw [if_neg h1, if_pos h2, if_neg (by simp [hb])]) hc
    have e : sentCode M no at_ = 13 := by simp only [sentCode]; rw [if_neg h1, if_pos h2, if_pos h3]
    rw [e]
    have HT : Hid (decide (IsTime at_) = true) := by show decide (IsTime at_) = true; simpa using h2
    have HM := hide (any_mem.1 h3)
    have H := hide h
    clear e hc h h2 h3
    go_enter Try.func34, Try.ntmps34
    go_wp2_with (first | (go_at_call 43; refine (rtime_any _).mono ?_; rintro e w' ⟨rfl, rfl⟩; rw [unhide HT]))
    refine (place_any (unhide H).kno (unhide H).lt (unhide H).no.ints (by simp; omega)).mono ?_
    rintro e w' ⟨⟨r, rfl, hr⟩, rfl⟩
    rcases hr with ⟨rfl, hr⟩ | ⟨j, hj, rfl, hr⟩
    · exact absurd (unhide HM) hr
    · clear hr
      go_wp2_with fail
      go_ret
      exact ⟨rfl, rfl⟩
  · have e : sentCode M no at_ = 10 := by simp only [sentCode]; rw [if_neg h1, if_neg h2]
    rw [e]
    have HT : Hid (decide (IsTime at_) = false) := by show decide (IsTime at_) = false; simpa using h2
    clear e hc h h2
    go_enter Try.func34, Try.ntmps34
    go_wp2_with (first | (go_at_call 43; refine (rtime_any _).mono ?_; rintro e w' ⟨rfl, rfl⟩; rw [unhide HT]))
    go_ret
    exact ⟨rfl, rfl⟩
end
end Go.Proofs.Ytdommbaljchofaa
