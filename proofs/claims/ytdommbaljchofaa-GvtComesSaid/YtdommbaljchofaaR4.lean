/-
  The contract of the reference's Start.
-/
import Derived.Test.YtdommbaljchofaaR3
namespace Go.Proofs.Ytdommbaljchofaa
open Go.RowKit Go.Deep
set_option linter.unusedVariables false

theorem foldl_min (L : List Int) : ∀ a b, L.foldl min (min a b) = min (L.foldl min a) b := by
  induction L with
  | nil => intro a b; rfl
  | cons x L ih =>
    intro a b
    simp only [List.foldl_cons]
    rw [show min (min a b) x = min (min a x) b by omega]
    exact ih _ _

theorem RAt.started {w : World} {B wb : Nat} {A1 A2 : Option Addr} {c1 c2 : Nat} {rd lo rd' lo' : Int} {M : List (Int × Int)} (h : RAt w B wb A1 A2 c1 c2 rd lo M) :
    RAt ((w.setCell ⟨wb, 2, none⟩ (.int .i64 rd')).setCell ⟨wb, 3, none⟩ (.int .i64 lo')) B wb A1 A2 c1 c2 rd' lo' M := by
  have n1 : (Value.slice A1 (M.map (·.1)).length c1).ownBlock ≠ some wb := fun e => owns_row_ne h.no h.hd (by decide) wb e rfl
  have n2 : (Value.slice A2 (M.map (·.2)).length c2).ownBlock ≠ some wb := fun e => owns_row_ne h.at_ h.hd (by decide) wb e rfl
  refine ⟨((h.hd.set 2 _).set 3 _).congr fun o ho' => ?_, own_far (own_far h.no n1 _) n1 _, own_far (own_far h.at_ n2 _) n2 _, h.ne⟩
  simp only [rwF]
  rcases (show o = 0 ∨ o = 1 ∨ o = 2 ∨ o = 3 by omega) with rfl | rfl | rfl | rfl <;> rfl

section
variable {w : World} {B wb c : Nat} {A1 A2 A : Option Addr} {c1 c2 : Nat} {rd lo round : Int} {M : List (Int × Int)} {L : List Int}
set_option maxHeartbeats 2000000 in
theorem rstart_any (h : RAt w B wb A1 A2 c1 c2 rd lo M) (h0 : 0 ≤ rd) (hr : rd ≤ 1000000) (hM : M.length ≤ 1000) (hL : L.length ≤ 1000000) (hI : IntsAt w A L) :
    Calls Try.prog 36 #[.pointer (some ⟨wb, 0, none⟩), .int .i64 round, .slice A L.length c] w fun e w' =>
      e = .returned (.tuple #[.int .i64 (startRes M rd lo round L), .int .i64 (startCode rd round L)]) ∧ RAt w' B wb A1 A2 c1 c2 (startRd rd round L) (startLo rd lo round L) M ∧ Only [wb] w w' := by
  have k2 := h.k2
  have k3 := h.k3
  have z2 := h.z 2
  have z3 := h.z 3
  have hlt := h.lt
  have H := hide h
  have HI := hide hI
  clear h hI
  by_cases h1 : round = rd + 1
  · have hb : (round != rd + 1) = false := by simpa using h1
    obtain ⟨c', hc'⟩ : ∃ x, startCode rd round L = x := ⟨_, rfl⟩
    obtain ⟨s', hs'⟩ : ∃ x, startRes M rd lo round L = x := ⟨_, rfl⟩
    obtain ⟨r', hr'⟩ : ∃ x, startRd rd round L = x := ⟨_, rfl⟩
    obtain ⟨l', hl'⟩ : ∃ x, startLo rd lo round L = x := ⟨_, rfl⟩
    rw [hc', hs', hr', hl']
    have HE : Hid (startCode rd round L = c' ∧ startRes M rd lo round L = s' ∧ startRd rd round L = r' ∧ startLo rd lo round L = l') := ⟨hc', hs', hr', hl'⟩
    have HR1 := hide h1
    clear hc' hs' hr' hl' h1
    obtain ⟨mm, hmm⟩ : ∃ x, (M.map (·.2)).foldl min Never = x := ⟨_, rfl⟩
    have HMM := hide hmm
    have HO : Hid (Calls Try.prog 15 #[.pointer (some ⟨wb, 0, none⟩)] w.drew fun e w' => e = .returned (.int .i64 mm) ∧ w.drew = w') := by
      have hd : RAt w.drew B wb A1 A2 c1 c2 rd lo M := (unhide H).only0 ⟨rfl, rfl, rfl, Nat.le_refl _, fun _ _ _ => rfl⟩
      have h' := ropen_any hd.kat hd.lt hd.at_.ints (by simp; omega)
      rw [hmm] at h'
      exact h'
    clear hmm
    go_enter Try.func36, Try.ntmps36
    go_wp2_with fail
    go_region_held3 (fun w' => w'.cell? ⟨wb, 3, none⟩ = some (.int .i64 lo)) (first | exact k3 | go_keep) (first | (go_at_call 15; (with_reducible refine Calls.mono (unhide HO) ?_); rintro e w' ⟨rfl, rfl⟩))
    generalize hg : (if lo < mm then lo else mm) = m2
    have HG : Hid (m2 = min mm lo) := by show m2 = min mm lo; rw [← hg]; split <;> omega
    have HDR : Hid (RAt w.drew B wb A1 A2 c1 c2 rd lo M) := (unhide H).only0 ⟨rfl, rfl, rfl, Nat.le_refl _, fun _ _ _ => rfl⟩
    have HID : Hid (IntsAt w.drew A L) := (unhide HI).only0 ⟨rfl, rfl, rfl, Nat.le_refl _, fun _ _ _ => rfl⟩
    have HOD : Hid (Only [wb] w w.drew) := ⟨rfl, rfl, rfl, Nat.le_refl _, fun _ _ _ => rfl⟩
    clear hg
    generalize w.drew = wd at *
    clear k2 k3 z2 z3 hlt
    have k2 := (unhide HDR).k2
    have k3 := (unhide HDR).k3
    have z2 := (unhide HDR).z 2
    have z3 := (unhide HDR).z 3
    have hlt := (unhide HDR).lt
    go_wp2_with fail
    go_loopg [8, 9] L.length (fun g v i wr => ∃ j : Nat, j + g = L.length ∧ i = .int .i64 j ∧ wd = wr ∧ v = .int .i64 ((L.take j).foldl min m2) ∧ ∀ k (hk : k < L.length), k < j → IsTime (L[k]'hk))
    case atStart => exact ⟨0, by omega, rfl, rfl, rfl, fun k _ hk => absurd hk (by omega)⟩
    case round =>
      obtain ⟨j, hjg, rfl, rfl, rfl, hall⟩ := hrel
      have HA : Hid (∀ k (hk : k < L.length), k < j → IsTime (L[k]'hk)) := hall
      clear hall
      by_cases hj : j < L.length
      · obtain ⟨b, off, rfl, hlt2, hcc⟩ := (unhide HID) j hj
        generalize hx : L[j]'hj = x at hcc
        have HX : Hid (L[j]'hj = x) := hx
        have hsn : (L.take (j + 1)).foldl min m2 = min ((L.take j).foldl min m2) x := by
          rw [List.take_succ_eq_append_getElem hj, List.foldl_append, hx]
          rfl
        have HSN := hide hsn
        generalize (L.take j).foldl min m2 = acc at HSN ⊢
        clear hx hsn
        have g1 : decide (L.length ≤ j) = false := by simp; omega
        have g2 : decide (j < L.length) = true := by simp; omega
        by_cases ht : IsTime x
        · have hd : decide (IsTime x) = true := by simpa using ht
          have HD := hide hd
          have HT := hide ht
          clear hd ht
          go_wp2_with (go_at_call 43; refine (rtime_any _).mono ?_; rintro e w' ⟨rfl, rfl⟩; rw [unhide HD])
          all_goals
            go_roundg (L.length - (j + 1))
            case measure => omega
            case rel =>
              refine ⟨j + 1, by omega, by go_num, rfl, by rw [unhide HSN]; first | rw [min_if] | (congr 1; omega), fun k hk hkj => ?_⟩
              by_cases e : k = j
              · subst e; rw [HX.out]; exact unhide HT
              · exact HA.out k hk (by omega)
        · have hd : decide (IsTime x) = false := by simpa using ht
          have HD := hide hd
          have HT := hide ht
          clear hd ht
          go_wp2_with (go_at_call 43; refine (rtime_any _).mono ?_; rintro e w' ⟨rfl, rfl⟩; rw [unhide HD])
          have e : startCode rd round L = 10 := by
            simp only [startCode]
            rw [if_pos (unhide HR1), if_neg (fun hall => unhide HT (by rw [← HX.out]; exact hall _ (List.getElem_mem hj)))]
          obtain ⟨f1, f2, f3, f4⟩ := unhide HE
          go_ret2
          rw [← f1, ← f2, ← f3, ← f4]
          rw [show startRes M rd lo round L = 0 by simp [startRes, e], e, show startRd rd round L = rd by simp [startRd, e], show startLo rd lo round L = lo by simp [startLo, e]]
          exact ⟨rfl, unhide HDR, unhide HOD⟩
      · have g2 : decide (j < L.length) = false := by simp; omega
        have hte : L.take j = L := List.take_of_length_le (by omega)
        rw [hte]
        clear hte
        obtain ⟨acc, hacc⟩ : ∃ acc, L.foldl min m2 = acc := ⟨_, rfl⟩
        have HAC := hide hacc
        rw [hacc]
        clear hacc
        go_wp2_with fail
        have hall : ∀ x ∈ L, IsTime x := fun x hx => by
          obtain ⟨k, hk, rfl⟩ := List.mem_iff_getElem.1 hx
          exact HA.out k hk (by omega)
        have e : startCode rd round L = 0 := by simp only [startCode]; rw [if_pos (unhide HR1), if_pos hall]
        obtain ⟨f1, f2, f3, f4⟩ := unhide HE
        go_ret2
        rw [← f1, ← f2, ← f3, ← f4]
        rw [show startRes M rd lo round L = acc by
          rw [← unhide HAC, unhide HG, foldl_min, ← unhide HMM]
          simp only [startRes]
          rw [if_pos e]
          rfl, e, show startRd rd round L = round by simp [startRd, e], show startLo rd lo round L = Never by simp [startLo, e]]
        exact ⟨rfl, (unhide HDR).started, ((unhide HOD).setIn (by simp) _).setIn (by simp) _⟩
  · have hb : (round != rd + 1) = true := by simpa using h1
    have e : startCode rd round L = 19 := by simp only [startCode]; rw [if_neg h1]
    have HF : Hid (startRes M rd lo round L = 0 ∧ startCode rd round L = 19 ∧ startRd rd round L = rd ∧ startLo rd lo round L = lo) := by
      refine ⟨?_, e, ?_, ?_⟩
      · simp [startRes, e]
      · simp [startRd, e]
      · simp [startLo, e]
    clear e h1
    go_enter Try.func36, Try.ntmps36
    go_wp2_with fail
    obtain ⟨f1, f2, f3, f4⟩ := HF.out
    go_ret2
    rw [f1, f2, f3, f4]
    exact ⟨rfl, unhide H, Only.refl _ _⟩
end
end Go.Proofs.Ytdommbaljchofaa
