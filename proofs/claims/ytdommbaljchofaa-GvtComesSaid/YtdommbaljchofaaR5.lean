/-
  The contract of the reference's Acked.
-/
import Derived.Test.YtdommbaljchofaaR4
namespace Go.Proofs.Ytdommbaljchofaa
open Go.RowKit Go.Deep
set_option linter.unusedVariables false

/-- The first k, without the one at j. -/
def keep (M : List (Int × Int)) (j k : Nat) : List (Int × Int) := (M.take k).eraseIdx j
theorem keep_zero (M : List (Int × Int)) (j : Nat) : keep M j 0 = [] := by simp [keep]
theorem keep_same {M : List (Int × Int)} {j k : Nat} (hk : k < M.length) (e : k = j) : keep M j (k + 1) = keep M j k := by
  subst e
  unfold keep
  rw [List.take_succ_eq_append_getElem hk, List.eraseIdx_append_of_length_le (by simp; omega), List.eraseIdx_of_length_le (l := M.take k) (by simp; omega)]
  simp [show k - min k M.length = 0 by omega]
theorem keep_next {M : List (Int × Int)} {j k : Nat} (hk : k < M.length) (e : k ≠ j) : keep M j (k + 1) = keep M j k ++ [M[k]'hk] := by
  unfold keep
  rw [List.take_succ_eq_append_getElem hk]
  by_cases h : j < k
  · rw [List.eraseIdx_append_of_lt_length (by simp; omega)]
  · rw [List.eraseIdx_append_of_length_le (by simp; omega), List.eraseIdx_of_length_le (l := M.take k) (by simp; omega), List.eraseIdx_of_length_le (by simp; omega)]
theorem keep_all {M : List (Int × Int)} {j : Nat} (hj : j < M.length) (hnd : M.Pairwise (fun a b => a.1 ≠ b.1)) : keep M j M.length = M.filter (fun p => p.1 != (M[j]'hj).1) := by
  unfold keep
  rw [List.take_of_length_le (Nat.le_refl _)]
  induction M generalizing j with
  | nil => simp at hj
  | cons p M ih =>
    have hc := List.pairwise_cons.1 hnd
    cases j with
    | zero =>
      simp only [List.eraseIdx_cons_zero, List.getElem_cons_zero]
      rw [List.filter_cons, if_neg (by simp), List.filter_eq_self.2]
      intro q hq
      have := hc.1 q hq
      simp
      omega
    | succ j =>
      have hj' : j < M.length := by simpa using hj
      simp only [List.eraseIdx_cons_succ, List.getElem_cons_succ]
      have := hc.1 _ (List.getElem_mem hj')
      rw [List.filter_cons, if_pos (by simpa using this), ih hj' hc.2]
theorem keep_len {M : List (Int × Int)} {j k : Nat} : (keep M j k).length ≤ M.length := by
  unfold keep
  have := List.length_eraseIdx_le (M.take k) j
  simp at this
  omega
theorem OwnsI.weaken {w : World} {B B' : Nat} {A : Option Addr} {c : Nat} {L : List Int} (h : OwnsI w B' A c L) (hB : B ≤ B') : OwnsI w B A c L := by
  refine ⟨h.1, ?_⟩
  rcases h.2 with hn | ⟨g, cap, cur, e, hb, rest⟩
  · exact .inl hn
  · exact .inr ⟨g, cap, cur, e, Nat.le_trans hB hb, rest⟩
end Go.Proofs.Ytdommbaljchofaa
