/-
  Go's remainder, brought into a list.
-/
import Derived.Test.YtdommbaljchofaaXE
namespace Go.Proofs.Ytdommbaljchofaa
open Go.RowKit Go.Deep
set_option linter.unusedVariables false
theorem modIdx {n : Nat} (hn : 0 < n) (hn2 : n ≤ 1000000) (v : Int) : ∃ j : Nat, j < n ∧ (wrap64 (v.tmod (n : Int) + (n : Int))).tmod (n : Int) = (j : Int) := by
  have h1 := Int.tmod_lt_of_pos v (show (0 : Int) < n by omega)
  have h2 := Int.lt_tmod_of_pos v (show (0 : Int) < n by omega)
  have e : wrap64 (v.tmod (n : Int) + (n : Int)) = v.tmod (n : Int) + (n : Int) := by
    unfold wrap64
    omega
  rw [e, Int.tmod_eq_emod_of_nonneg (by omega)]
  have h3 := Int.emod_nonneg (v.tmod (n : Int) + (n : Int)) (show (n : Int) ≠ 0 by omega)
  have h4 := Int.emod_lt_of_pos (v.tmod (n : Int) + (n : Int)) (show (0 : Int) < n by omega)
  exact ⟨((v.tmod (n : Int) + (n : Int)) % (n : Int)).toNat, by omega, by omega⟩
end Go.Proofs.Ytdommbaljchofaa
