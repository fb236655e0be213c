/-
  The reference's worker in memory, and its methods' contracts.
-/
import Derived.Test.YtdommbaljchofaaG
import Derived.Maps.AppendAt
import Derived.Deep.AppendLies
import Derived.Deep.RegionHeld3
import Derived.BigRegion
namespace Go.Proofs.Ytdommbaljchofaa
open Go.RowKit Go.Deep
set_option linter.unusedVariables false

/-- A slice of numbers that the call owns. -/
def OwnsI (w : World) (B : Nat) (A : Option Addr) (c : Nat) (L : List Int) : Prop := w.ownsRow B 3 1 (.slice A L.length c) L.length (L.map fun x => .int .i64 x)
theorem OwnsI.nil (w : World) (B : Nat) : OwnsI w B none 0 [] := World.ownsRow_nil _ _ _ _
theorem OwnsI.ints {w : World} {B : Nat} {A : Option Addr} {c : Nat} {L : List Int} (h : OwnsI w B A c L) : IntsAt w A L := by
  intro i hi
  have hp : 0 < L.length := by omega
  obtain ⟨g, cap, hv, hb, hlt⟩ := World.ownsRow.form h hp
  injection hv with hA _ hc
  subst hA hc
  refine ⟨g, 0, rfl, hlt, ?_⟩
  rw [World.ownsRow.cellAt h _ (by omega)]
  simp [hi]
def ob (A : Option Addr) (n c : Nat) : List Nat := (Value.ownBlock (.slice A n c)).toList

def rwF (A B : Option Addr) (n c d : Nat) (rd lo : Int) (o : Nat) : Value :=
  if o = 0 then .slice A n c else if o = 1 then .slice B n d else if o = 2 then .int .i64 rd else .int .i64 lo
/-- The reference's worker: in block wb; its two lists behind A1 and A2. -/
structure RAt (w : World) (B wb : Nat) (A1 A2 : Option Addr) (c1 c2 : Nat) (rd lo : Int) (M : List (Int × Int)) : Prop where
  hd : w.rowIs wb 30 4 (rwF A1 A2 M.length c1 c2 rd lo)
  no : OwnsI w B A1 c1 (M.map (·.1))
  at_ : OwnsI w B A2 c2 (M.map (·.2))
  ne : ∀ g, (Value.slice A1 M.length c1).ownBlock = some g → (Value.slice A2 M.length c2).ownBlock ≠ some g
/-- The blocks of it. -/
def fp (wb : Nat) (A1 A2 : Option Addr) (n c1 c2 : Nat) : List Nat := wb :: (ob A1 n c1 ++ ob A2 n c2)

section
variable {w : World} {wb c : Nat} {A : Option Addr} {L : List Int}
set_option maxHeartbeats 1000000 in
theorem place_any {no : Int} (hc : w.cell? ⟨wb, 0, none⟩ = some (.slice A L.length c)) (hlt : wb < w.heap.size) (hI : IntsAt w A L) (hL : L.length ≤ 1000000) :
    Calls Try.prog 44 #[.pointer (some ⟨wb, 0, none⟩), .int .i64 no] w fun e w' => (∃ r : Int, e = .returned (.int .i64 r) ∧ ((r = -1 ∧ no ∉ L) ∨ ∃ j : Nat, ∃ hj : j < L.length, r = j ∧ L[j]'hj = no)) ∧ w = w' := by
  have H : Hid (IntsAt w A L) := hI
  clear hI
  go_enter Try.func44, Try.ntmps44
  go_wp2_with fail
  go_loopg [5] L.length (fun g i wr => ∃ j : Nat, j + g = L.length ∧ i = .int .i64 j ∧ w = wr ∧ ∀ k (hk : k < L.length), k < j → L[k]'hk ≠ no)
  case atStart => exact ⟨0, by omega, rfl, rfl, fun k _ hk => absurd hk (by omega)⟩
  case round =>
    obtain ⟨j, hjg, rfl, rfl, hall⟩ := hrel
    have HA : Hid (∀ k (hk : k < L.length), k < j → L[k]'hk ≠ no) := hall
    clear hall
    by_cases hj : j < L.length
    · obtain ⟨b, off, rfl, hlt2, hcc⟩ := H.out j hj
      generalize hx : L[j]'hj = x at hcc
      have HX : Hid (L[j]'hj = x) := hx
      clear hx
      have g1 : decide (L.length ≤ j) = false := by simp; omega
      have g2 : decide (j < L.length) = true := by simp; omega
      by_cases he : x = no
      · have hb : (x == no) = true := by simpa using he
        have HE := hide he
        clear he
        go_wp2_with fail
        go_ret
        exact ⟨⟨j, rfl, .inr ⟨j, hj, rfl, by rw [HX.out]; exact unhide HE⟩⟩, rfl⟩
      · have hb : (x == no) = false := by simpa using he
        have HE := hide he
        clear he
        go_wp2_with fail
        go_roundg (L.length - (j + 1))
        case measure => omega
        case rel =>
          refine ⟨j + 1, by omega, by go_num, rfl, fun k hk hkj => ?_⟩
          by_cases e : k = j
          · subst e; rw [HX.out]; exact unhide HE
          · exact HA.out k hk (by omega)
    · have g2 : decide (j < L.length) = false := by simp; omega
      go_wp2_with fail
      go_ret
      refine ⟨⟨-1, rfl, .inl ⟨rfl, fun hm => ?_⟩⟩, rfl⟩
      obtain ⟨k, hk, he⟩ := List.mem_iff_getElem.1 hm
      exact HA.out k hk (by omega) he

set_option maxHeartbeats 1000000 in
theorem ropen_any (hc : w.cell? ⟨wb, 1, none⟩ = some (.slice A L.length c)) (hlt : wb < w.heap.size) (hI : IntsAt w A L) (hL : L.length ≤ 1000000) :
    Calls Try.prog 15 #[.pointer (some ⟨wb, 0, none⟩)] w fun e w' => e = .returned (.int .i64 (L.foldl min Never)) ∧ w = w' := by
  have H : Hid (IntsAt w A L) := hI
  clear hI
  go_enter Try.func15, Try.ntmps15
  go_wp2_with fail
  go_loopg [3, 4] L.length (fun g v i wr => ∃ j : Nat, j + g = L.length ∧ i = .int .i64 j ∧ w = wr ∧ v = .int .i64 ((L.take j).foldl min Never))
  case atStart => exact ⟨0, by omega, rfl, rfl, rfl⟩
  case round =>
    obtain ⟨j, hjg, rfl, rfl, rfl⟩ := hrel
    by_cases hj : j < L.length
    · obtain ⟨b, off, rfl, hlt2, hcc⟩ := H.out j hj
      generalize hx : L[j]'hj = x at hcc
      have hsn : (L.take (j + 1)).foldl min Never = min ((L.take j).foldl min Never) x := by
        rw [List.take_succ_eq_append_getElem hj, List.foldl_append, hx]
        rfl
      have HSN := hide hsn
      generalize (L.take j).foldl min Never = acc at HSN ⊢
      clear hx hsn
      have g1 : decide (L.length ≤ j) = false := by simp; omega
      have g2 : decide (j < L.length) = true := by simp; omega
      go_wp2_with fail
      all_goals
        go_roundg (L.length - (j + 1))
        case measure => omega
        case rel => exact ⟨j + 1, by omega, by go_num, rfl, by rw [unhide HSN]; first | rw [min_if] | (congr 1; omega)⟩
    · have g2 : decide (j < L.length) = false := by simp; omega
      have hte : L.take j = L := List.take_of_length_le (by omega)
      rw [hte]
      clear hte
      obtain ⟨acc, hacc⟩ : ∃ acc, L.foldl min Never = acc := ⟨_, rfl⟩
      have HAC := hide hacc
      rw [hacc]
      clear hacc
      go_wp2_with fail
      go_ret
      rw [unhide HAC]
      exact ⟨rfl, rfl⟩
end
end Go.Proofs.Ytdommbaljchofaa
