/-
  The statements' world: something comes: the head.
-/
import Derived.Test.YtdommbaljchofaaXF
namespace Go.Proofs.Ytdommbaljchofaa
open Go.RowKit Go.Deep
set_option linter.unusedVariables false
set_option linter.unusedSimpArgs false

theorem pk_part (l : List Pk) (i : Nat) : l.flatMap Pk.cells = (l.take i).flatMap Pk.cells ++ (l.drop i).flatMap Pk.cells := by rw [← List.flatMap_append, List.take_append_drop]
theorem pk_news {w : World} {g i n : Nat} {l T : List Pk} (hT : (l.drop i).take n = T) (hc : ∀ j u, (l.flatMap Pk.cells)[j]? = some u → w.cell? ⟨g, j, none⟩ = some u) (hi : i ≤ l.length) : ∀ j u, (T.flatMap Pk.cells)[j]? = some u → w.cell? ((⟨g, i * 5, none⟩ : Addr).add j) = some u := by
  intro j u hj
  rw [Addr.add_lit]
  refine hc _ _ ?_
  rw [pk_part l i, List.getElem?_append_right (by rw [pk_len]; simp; omega), pk_len, pk_part (l.drop i) n, hT]
  have e : i * 5 + j - (List.take i l).length * 5 = j := by simp; omega
  rw [e, List.getElem?_append_left (List.getElem?_eq_some_iff.1 hj).1, hj]
def pkF (p : Pk) (o : Nat) : Value := if o = 0 then .int .i64 p.kind else if o = 1 then .int .i64 p.fr else if o = 2 then .int .i64 p.dst else if o = 3 then .int .i64 p.no else .int .i64 p.tm
theorem owns_weaken {w : World} {B B' : Nat} {e : TypeId} {size : Nat} {v : Value} {n : Nat} {xs : List Value} (h : w.ownsRow B' e size v n xs) (hB : B ≤ B') : w.ownsRow B e size v n xs := by
  refine ⟨h.1, ?_⟩
  rcases h.2 with hn | ⟨g, cap, cur, e, hb, rest⟩
  · exact .inl hn
  · exact .inr ⟨g, cap, cur, e, Nat.le_trans hB hb, rest⟩
theorem pk_ones (l : List Pk) : ∀ u ∈ l.flatMap Pk.cells, u.oneCell' = true := by
  intro u hu
  obtain ⟨p, _, hp⟩ := List.mem_flatMap.1 hu
  exact pk_one p u hp

section
variable {W w : World} {xb : Nat} {x : XS}
set_option maxRecDepth 100000 in
set_option maxHeartbeats 4000000 in
theorem comes_none {which : Int} (h : XAt W w xb x) (hl : x.l = []) : Calls Try.prog 23 #[.pointer (some ⟨xb, 0, none⟩), .int .i64 which] w fun e w' => e = .returned (.tuple #[]) ∧ w = w' := by
  have c2 := h.c2
  rw [hl] at c2
  have hlt := h.lt
  clear h hl
  go_enter Try.func23, Try.ntmps23
  go_wp2_with fail
  first | go_end0 | refine bodyPost_ret (results_none rfl _ _ _) rfl ?_
  exact ⟨rfl, rfl⟩

end
end Go.Proofs.Ytdommbaljchofaa
