/-
  Lists of handles in memory; the calls as they came in. No program in sight.
-/
import Derived.Test.YtegnbodolkaelaaP1
import Derived.Maps.AppendAt
import Derived.Deep.AppendLies
namespace Go.Proofs.Ytegnbodolkaelaa
open Go.RowKit

/-- The cells of a list of handles. -/
def hs (L : List (Nat × Int)) : List Value := L.flatMap fun p => [.int .i64 (p.1 : Int), .int .i64 p.2]
theorem hs_nil : hs [] = [] := rfl
theorem hs_cons (p : Nat × Int) (L : List (Nat × Int)) : hs (p :: L) = .int .i64 (p.1 : Int) :: .int .i64 p.2 :: hs L := rfl
theorem hs_append (L M : List (Nat × Int)) : hs (L ++ M) = hs L ++ hs M := by simp [hs]
theorem hs_length (L : List (Nat × Int)) : (hs L).length = L.length * 2 := by
  induction L with
  | nil => rfl
  | cons p L ih => rw [hs_cons]; simp only [List.length_cons, ih]; omega
theorem hs_take (L : List (Nat × Int)) (j : Nat) : hs (L.take j) = (hs L).take (j * 2) := by
  induction L generalizing j with
  | nil => simp [hs_nil]
  | cons p L ih =>
    cases j with
    | zero => simp [hs_nil]
    | succ j => rw [List.take_succ_cons, hs_cons, hs_cons, ih, show (j + 1) * 2 = j * 2 + 1 + 1 by omega, List.take_succ_cons, List.take_succ_cons]
theorem hs_drop (L : List (Nat × Int)) (j : Nat) : hs (L.drop j) = (hs L).drop (j * 2) := by
  induction L generalizing j with
  | nil => simp [hs_nil]
  | cons p L ih =>
    cases j with
    | zero => simp
    | succ j => rw [List.drop_succ_cons, hs_cons, ih, show (j + 1) * 2 = j * 2 + 1 + 1 by omega, List.drop_succ_cons, List.drop_succ_cons]
theorem hs_get0 (L : List (Nat × Int)) (j : Nat) (hj : j < L.length) : (hs L)[j * 2]? = some (.int .i64 ((L[j]'hj).1 : Int)) := by
  induction L generalizing j with
  | nil => simp at hj
  | cons p L ih =>
    cases j with
    | zero => rfl
    | succ j =>
      rw [hs_cons, show (j + 1) * 2 = j * 2 + 1 + 1 by omega, List.getElem?_cons_succ, List.getElem?_cons_succ, ih j (by simpa using hj)]
      rfl
theorem hs_get1 (L : List (Nat × Int)) (j : Nat) (hj : j < L.length) : (hs L)[j * 2 + 1]? = some (.int .i64 (L[j]'hj).2) := by
  induction L generalizing j with
  | nil => simp at hj
  | cons p L ih =>
    cases j with
    | zero => rfl
    | succ j =>
      rw [hs_cons, show (j + 1) * 2 + 1 = j * 2 + 1 + 1 + 1 by omega, List.getElem?_cons_succ, List.getElem?_cons_succ, ih j (by simpa using hj)]
      rfl
theorem hs_one (L : List (Nat × Int)) : ∀ u ∈ hs L, u.oneCell' = true := by
  intro u hu
  obtain ⟨p, _, hp⟩ := List.mem_flatMap.1 hu
  simp at hp
  rcases hp with rfl | rfl <;> rfl
theorem hs_erase (L : List (Nat × Int)) (j : Nat) : hs (L.eraseIdx j) = (hs L).take (j * 2) ++ (hs L).drop ((j + 1) * 2) := by
  rw [List.eraseIdx_eq_take_drop_succ, hs_append, hs_take, hs_drop]

/-- A slice of handles that the call owns. -/
def OwnsH (w : World) (B : Nat) (A : Option Addr) (c : Nat) (L : List (Nat × Int)) : Prop := w.ownsRow B 32 2 (.slice A L.length c) L.length (hs L)
theorem OwnsH.nil (w : World) (B : Nat) : OwnsH w B none 0 [] := World.ownsRow_nil _ _ _ _
/-- What lies behind its address, where there is one. -/
theorem OwnsH.at_ {w : World} {B : Nat} {A : Option Addr} {c : Nat} {L : List (Nat × Int)} (h : OwnsH w B A c L) (hL : 0 < L.length) :
    ∃ g, A = some ⟨g, 0, none⟩ ∧ B ≤ g ∧ g < w.heap.size ∧ L.length ≤ c ∧ ∀ j (hj : j < L.length), w.cell? ⟨g, j * 2, none⟩ = some (.int .i64 ((L[j]'hj).1 : Int)) ∧ w.cell? ⟨g, j * 2 + 1, none⟩ = some (.int .i64 (L[j]'hj).2) := by
  obtain ⟨g, cap, hv, hb, hlt⟩ := World.ownsRow.form h hL
  injection hv with hA _ hc
  subst hA hc
  have hle : L.length ≤ c := by
    rcases h.2 with ⟨h0, _⟩ | ⟨_, _, _, hv, _, _, hn, _⟩
    · cases h0
    · injection hv with _ _ hc
      omega
  refine ⟨g, rfl, hb, hlt, hle, fun j hj => ⟨?_, ?_⟩⟩
  · rw [World.ownsRow.cellAt h _ (by omega), hs_get0 L j hj]
  · rw [World.ownsRow.cellAt h _ (by omega), hs_get1 L j hj]
theorem OwnsH.only {w w' : World} {s : List Nat} {B : Nat} {A : Option Addr} {c : Nat} {L : List (Nat × Int)} (h : OwnsH w B A c L) (k : Only s w w') (hn : ∀ b, (Value.slice A L.length c).ownBlock = some b → b ∉ s) : OwnsH w' B A c L :=
  k.owns h hn
theorem OwnsH.notin {w : World} {sb lb fb cap : Nat} {S : Sl} {B : Nat} {A : Option Addr} {c : Nat} {L : List (Nat × Int)} (h : OwnsH w B A c L) (hA : At w sb lb fb cap S) : ∀ b, (Value.slice A L.length c).ownBlock = some b → b ∉ [sb, lb, fb] := by
  intro b hb
  have h1 := owns_row_ne h hA.hd (by decide) b hb
  have h2 := owns_row_ne h hA.sl (by decide) b hb
  have h3 := owns_rowTo_ne h hA.fr (by decide) b hb
  simp
  omega

/-- A call as it came in. -/
structure OpV where
  ask : Int
  cls : Int
  urg : Bool
  v : Int
  pl : Int
  hs : Int
  ht : Int
/-- The calls lie behind A: seven cells each. -/
def OpsAt (w : World) (A : Option Addr) (n : Nat) (ops : Nat → OpV) : Prop :=
  ∀ i, i < n → ∃ b off, A = some ⟨b, off, none⟩ ∧ b < w.heap.size ∧ (-9223372036854775808 ≤ (ops i).pl ∧ (ops i).pl ≤ 9223372036854775807) ∧
    w.cell? ⟨b, off + i * 7, none⟩ = some (.int .i64 (ops i).ask) ∧ w.cell? ⟨b, off + i * 7 + 1, none⟩ = some (.int .i64 (ops i).cls) ∧ w.cell? ⟨b, off + i * 7 + 2, none⟩ = some (.bool (ops i).urg) ∧
    w.cell? ⟨b, off + i * 7 + 3, none⟩ = some (.int .i64 (ops i).v) ∧ w.cell? ⟨b, off + i * 7 + 4, none⟩ = some (.int .i64 (ops i).pl) ∧ w.cell? ⟨b, off + i * 7 + 5, none⟩ = some (.int .i64 (ops i).hs) ∧
    w.cell? ⟨b, off + i * 7 + 6, none⟩ = some (.int .i64 (ops i).ht)
theorem OpsAt.below {w w' : World} {A : Option Addr} {n : Nat} {ops : Nat → OpV} (h : OpsAt w A n ops) (hb : Below w.heap.size w w') : OpsAt w' A n ops := by
  intro i hi
  obtain ⟨b, off, rfl, hlt, hw, h0, h1, h2, h3, h4, h5, h6⟩ := h i hi
  refine ⟨b, off, rfl, Nat.lt_of_lt_of_le hlt hb.size, hw, ?_, ?_, ?_, ?_, ?_, ?_, ?_⟩
  · exact (hb.cell hlt).trans h0
  · exact (hb.cell hlt).trans h1
  · exact (hb.cell hlt).trans h2
  · exact (hb.cell hlt).trans h3
  · exact (hb.cell hlt).trans h4
  · exact (hb.cell hlt).trans h5
  · exact (hb.cell hlt).trans h6

theorem own_far {w : World} {B : Nat} {e : TypeId} {size : Nat} {v : Value} {n : Nat} {xs : List Value} (h : w.ownsRow B e size v n xs) {b o : Nat} (hb : v.ownBlock ≠ some b) (u : Value) : (w.setCell ⟨b, o, none⟩ u).ownsRow B e size v n xs :=
  h.kept (row := some b) ⟨rfl, rfl, rfl, by simp, fun i _ hi => Below.heap_setCell _ _ _ _ (fun e => hi (by rw [e]))⟩ (.inr hb)
/-- What a slice's own append has turned: its own block alone. -/
theorem only_grown {w w' : World} {v : Value} (hg : w.grownBy w' v.ownBlock) : Only v.ownBlock.toList w w' :=
  Only.of_grown hg (fun k hk => .inl (by simp [hk]))
/-- The cells of a part of a row. -/
theorem own_part {w : World} {B : Nat} {e : TypeId} {size : Nat} {g n c : Nat} {xs : List Value} (h : w.ownsRow B e size (.slice (some ⟨g, 0, none⟩) n c) n xs) (k : Nat) :
    ∀ j u, (xs.drop k)[j]? = some u → w.cell? ⟨g, k + j, none⟩ = some u := by
  intro j u hu
  rw [List.getElem?_drop] at hu
  have hl := (List.getElem?_eq_some_iff.1 hu).1
  rw [h.cellAt _ (by rw [← h.1]; exact hl)]
  exact hu
theorem own_head {w : World} {B : Nat} {e : TypeId} {size : Nat} {g n c : Nat} {xs : List Value} (h : w.ownsRow B e size (.slice (some ⟨g, 0, none⟩) n c) n xs) (k : Nat) :
    ∀ j u, (xs.take k)[j]? = some u → w.cell? ((⟨g, 0, none⟩ : Addr).add j) = some u := by
  intro j u hu
  have hu' : xs[j]? = some u := by
    rw [List.getElem?_take] at hu
    split at hu
    · exact hu
    · cases hu
  exact h.cells (g := g) rfl j u hu'
/-- Where a slice begins that is cut at its head. -/
def cutAt (g o c k : Nat) : Addr := if c = k then ⟨g, 0, none⟩ else ⟨g, o, none⟩
theorem cut_is (g o c k : Nat) : (if c = k then some (⟨g, 0, none⟩ : Addr) else some ⟨g, o, none⟩) = some (cutAt g o c k) := by unfold cutAt; split <;> rfl
theorem own_tail {w : World} {B : Nat} {e : TypeId} {size : Nat} {g n c : Nat} {xs : List Value} (h : w.ownsRow B e size (.slice (some ⟨g, 0, none⟩) n c) n xs) (hn : n ≤ c) (k : Nat) :
    ∀ j u, (xs.drop (k * size))[j]? = some u → w.cell? ((cutAt g (k * size) c k).add j) = some u := by
  intro j u hu
  have hlt : k * size + j < xs.length := by
    have := (List.getElem?_eq_some_iff.1 hu).1
    simp at this
    omega
  have hc : c ≠ k := by
    rintro rfl
    have h1 := h.1
    have h2 : n * size ≤ c * size := Nat.mul_le_mul_right _ hn
    omega
  unfold cutAt
  rw [if_neg hc]
  have e : (⟨g, k * size, none⟩ : Addr).add j = ⟨g, k * size + j, none⟩ := by unfold Addr.add; split <;> simp_all
  rw [e]
  exact own_part h _ j u hu
/-- The cells of a block that was just made. -/
theorem new_cells (w : World) (cs : Array Value) (t b : Nat) (hb : w.heap.size = b) : ∀ j u, cs.toList[j]? = some u → (w.alloc (.cells cs t)).cell? ((⟨b, 0, none⟩ : Addr).add j) = some u := by
  subst hb
  exact World.news_of_block (heap_alloc_new w _)
end Go.Proofs.Ytegnbodolkaelaa
