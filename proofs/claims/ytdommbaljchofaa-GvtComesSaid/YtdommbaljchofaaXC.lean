/-
  The statements' world in memory: what is read; the least time of it.
-/
import Derived.Test.YtdommbaljchofaaXB
namespace Go.Proofs.Ytdommbaljchofaa
open Go.RowKit Go.Deep
set_option linter.unusedVariables false

theorem pk_cell {l : List Pk} {i f : Nat} {p : Pk} (hi : l[i]? = some p) (hf : f < 5) : (l.flatMap Pk.cells)[i * 5 + f]? = p.cells[f]? := by
  induction l generalizing i with
  | nil => simp at hi
  | cons q l ih =>
    rw [List.flatMap_cons]
    cases i with
    | zero =>
      simp only [List.getElem?_cons_zero, Option.some.injEq] at hi
      subst hi
      rw [List.getElem?_append_left (by simp [Pk.cells]; omega)]
      simp
    | succ i =>
      simp only [List.getElem?_cons_succ] at hi
      rw [List.getElem?_append_right (by simp [Pk.cells]; omega), ← ih hi]
      congr 1
      simp [Pk.cells]
      omega
theorem pk_len (l : List Pk) : (l.flatMap Pk.cells).length = l.length * 5 := by
  induction l with
  | nil => rfl
  | cons p l ih => rw [List.flatMap_cons, List.length_append, ih]; simp [Pk.cells]; omega
theorem own_at {w : World} {base : Nat} {e : TypeId} {size : Nat} {A : Option Addr} {n c : Nat} {xs : List Value} (r : w.ownsRow base e size (.slice A n c) n xs) (hn : 0 < n) :
    ∃ g, A = some ⟨g, 0, none⟩ ∧ g < w.heap.size ∧ n ≤ c ∧ (∀ j u, xs[j]? = some u → w.cell? ⟨g, j, none⟩ = some u) ∧ ∀ j, w.frozen? ⟨g, j, none⟩ = false := by
  obtain ⟨g, cap, hv, hb, hlt⟩ := World.ownsRow.form r hn
  injection hv with hA _ hc
  subst hA hc
  refine ⟨g, rfl, hlt, ?_, fun j u hj => ?_, fun j => r.frozenAt j⟩
  · rcases r.2 with ⟨h0, _⟩ | ⟨g', cap', cur, hv, _, _, hn', _⟩
    · cases h0
    · injection hv with _ _ hc
      omega
  · have hl := (List.getElem?_eq_some_iff.1 hj).1
    rw [r.cellAt _ (by have := r.1; omega), hj]
namespace XAt
variable {W w w' : World} {xb : Nat} {x : XS}
theorem atK (h : XAt W w xb x) {i : Nat} {k : WK} (hi : x.K[i]? = some k) : ∃ g, x.kv = some ⟨g, 0, none⟩ ∧ g < w.heap.size ∧ w.cell? ⟨g, i, none⟩ = some (.pointer (some ⟨k.wb, 0, none⟩)) := by
  have hl := (List.getElem?_eq_some_iff.1 hi).1
  obtain ⟨g, e, hlt, _, hc, _⟩ := own_at h.kr (by omega)
  exact ⟨g, e, hlt, hc i _ (by rw [List.getElem?_map, hi]; rfl)⟩
theorem atO (h : XAt W w xb x) {i : Nat} {o : OK} (hi : x.O[i]? = some o) : ∃ g, x.ov = some ⟨g, 0, none⟩ ∧ g < w.heap.size ∧ w.cell? ⟨g, i, none⟩ = some (.slice o.A o.L.length o.c) ∧ w.frozen? ⟨g, i, none⟩ = false := by
  have hl := (List.getElem?_eq_some_iff.1 hi).1
  obtain ⟨g, e, hlt, _, hc, hz⟩ := own_at h.ow (by omega)
  exact ⟨g, e, hlt, hc i _ (by rw [List.getElem?_map, hi]; rfl), hz i⟩
structure PkAt (w : World) (g off : Nat) (p : Pk) : Prop where
  c0 : w.cell? ⟨g, off, none⟩ = some (.int .i64 p.kind)
  c1 : w.cell? ⟨g, off + 1, none⟩ = some (.int .i64 p.fr)
  c2 : w.cell? ⟨g, off + 2, none⟩ = some (.int .i64 p.dst)
  c3 : w.cell? ⟨g, off + 3, none⟩ = some (.int .i64 p.no)
  c4 : w.cell? ⟨g, off + 4, none⟩ = some (.int .i64 p.tm)
theorem atL (h : XAt W w xb x) {i : Nat} {p : Pk} (hi : x.l[i]? = some p) : ∃ g, x.lv = some ⟨g, 0, none⟩ ∧ g < w.heap.size ∧ x.l.length ≤ x.lc ∧ PkAt w g (i * 5) p := by
  have hl := (List.getElem?_eq_some_iff.1 hi).1
  obtain ⟨g, e, hlt, hcap, hc, _⟩ := own_at h.lr (by omega)
  exact ⟨g, e, hlt, hcap, hc _ _ (pk_cell (f := 0) hi (by omega)), hc _ _ (pk_cell (f := 1) hi (by omega)), hc _ _ (pk_cell (f := 2) hi (by omega)), hc _ _ (pk_cell (f := 3) hi (by omega)), hc _ _ (pk_cell (f := 4) hi (by omega))⟩
end XAt

def pmin (a : Int) (p : Pk) : Int := if p.kind = 0 then min a p.tm else a
def leastX (O : List (List Int)) (l : List Pk) : Int := l.foldl pmin (O.flatten.foldl min Never)

set_option maxRecDepth 100000 in
set_option maxHeartbeats 4000000 in
theorem least_any {W w : World} {xb : Nat} {x : XS} (h : XAt W w xb x) (h1 : x.O.length ≤ 1000) (h2 : ∀ o ∈ x.O, o.L.length ≤ 1000000) (h3 : x.l.length ≤ 1000000) :
    Calls Try.prog 22 #[.pointer (some ⟨xb, 0, none⟩)] w fun e w' => e = .returned (.int .i64 (leastX (x.O.map OK.L) x.l)) ∧ w = w' := by
  have c1 := h.c1
  have c2 := h.c2
  have hlt := h.lt
  have H := hide h
  have H2 := hide h2
  clear h h2
  go_enter Try.func22, Try.ntmps22
  go_wp2_with fail
  go_loopg [3, 4] x.O.length (fun g v i wr => ∃ k : Nat, k + g = x.O.length ∧ i = .int .i64 k ∧ w = wr ∧ v = .int .i64 (((x.O.map OK.L).take k).flatten.foldl min Never))
  case atStart => exact ⟨0, by omega, rfl, rfl, rfl⟩
  case round =>
    obtain ⟨k, hkg, rfl, rfl, rfl⟩ := hrel
    by_cases hk : k < x.O.length
    · obtain ⟨o, ho⟩ := some_of_lt hk
      obtain ⟨g, hov, hg, hcell, _⟩ := (unhide H).atO ho
      have hoa := hide ((unhide H).oa o (List.mem_of_getElem? ho)).ints
      have hol : o.L.length ≤ 1000000 := (unhide H2) o (List.mem_of_getElem? ho)
      have hsn : ((x.O.map OK.L).take (k + 1)).flatten.foldl min Never = o.L.foldl min (((x.O.map OK.L).take k).flatten.foldl min Never) := by
        rw [List.take_add_one, List.getElem?_map, ho]
        simp [List.foldl_append]
      have HSN := hide hsn
      generalize ((x.O.map OK.L).take k).flatten.foldl min Never = acc at HSN ⊢
      clear hsn
      rw [hov] at c1
      have g1 : decide (x.O.length ≤ k) = false := by simp; omega
      have g2 : decide (k < x.O.length) = true := by simp; omega
      go_wp2_with fail
      go_loopg [3, 5] o.L.length (fun q v i wr => ∃ j : Nat, j + q = o.L.length ∧ i = .int .i64 j ∧ w = wr ∧ v = .int .i64 ((o.L.take j).foldl min acc))
      case atStart => exact ⟨0, by omega, rfl, rfl, rfl⟩
      case round =>
        obtain ⟨j, hjg, rfl, rfl, rfl⟩ := hrel
        by_cases hj : j < o.L.length
        · obtain ⟨b, off, hoA, hlt2, hcc⟩ := (unhide hoa) j hj
          rw [hoA] at hcell
          generalize hx : o.L[j]'hj = z at hcc
          have hsn : (o.L.take (j + 1)).foldl min acc = min ((o.L.take j).foldl min acc) z := by
            rw [List.take_succ_eq_append_getElem hj, List.foldl_append, hx]
            rfl
          have HSN2 := hide hsn
          generalize (o.L.take j).foldl min acc = acc2 at HSN2 ⊢
          clear hx hsn
          have g3 : decide (o.L.length ≤ j) = false := by simp; omega
          have g4 : decide (j < o.L.length) = true := by simp; omega
          go_wp2_with fail
          all_goals
            go_roundg (o.L.length - (j + 1))
            case measure => omega
            case rel => exact ⟨j + 1, by omega, by go_num, rfl, by rw [unhide HSN2]; first | rw [min_if] | (congr 1; omega)⟩
        · have g3 : decide (j < o.L.length) = false := by simp; omega
          have hte : o.L.take j = o.L := List.take_of_length_le (by omega)
          rw [hte, ← unhide HSN]
          clear hte
          go_wp2_with fail
          go_roundg (x.O.length - (k + 1))
          case measure => omega
          case rel => exact ⟨k + 1, by omega, by go_num, rfl, rfl⟩
    · have g2 : decide (k < x.O.length) = false := by simp; omega
      have hte : (x.O.map OK.L).take k = x.O.map OK.L := List.take_of_length_le (by simp; omega)
      rw [hte]
      clear hte
      obtain ⟨R, hR⟩ : ∃ R, leastX (x.O.map OK.L) x.l = R := ⟨_, rfl⟩
      have HRX := hide hR
      have HLX : Hid (R = x.l.foldl pmin ((x.O.map OK.L).flatten.foldl min Never)) := by
        show R = x.l.foldl pmin ((x.O.map OK.L).flatten.foldl min Never)
        rw [← hR]
        rfl
      clear hR
      generalize (x.O.map OK.L).flatten.foldl min Never = acc at HLX ⊢
      go_wp2_with fail
      go_loopg [3, 6] x.l.length (fun q v i wr => ∃ j : Nat, j + q = x.l.length ∧ i = .int .i64 j ∧ w = wr ∧ v = .int .i64 ((x.l.take j).foldl pmin acc))
      case atStart => exact ⟨0, by omega, rfl, rfl, rfl⟩
      case round =>
        obtain ⟨j, hjg, rfl, rfl, rfl⟩ := hrel
        by_cases hj : j < x.l.length
        · obtain ⟨p, hp⟩ := some_of_lt hj
          obtain ⟨g, hlv, hg, hcap, ⟨q0, q1, q2, q3, q4⟩⟩ := (unhide H).atL hp
          rw [hlv] at c2
          have hsn : (x.l.take (j + 1)).foldl pmin acc = pmin ((x.l.take j).foldl pmin acc) p := by
            rw [List.take_add_one, hp]
            simp [List.foldl_append]
          have HSN2 := hide hsn
          generalize (x.l.take j).foldl pmin acc = acc2 at HSN2 ⊢
          clear hsn q1 q2 q3
          have g3 : decide (x.l.length ≤ j) = false := by simp; omega
          have g4 : decide (j < x.l.length) = true := by simp; omega
          by_cases hkd : p.kind = 0
          · have HPM : Hid (pmin acc2 p = min acc2 p.tm) := if_pos hkd
            rw [hkd] at q0
            clear hkd
            go_wp2_with fail
            all_goals
              go_roundg (x.l.length - (j + 1))
              case measure => omega
              case rel => exact ⟨j + 1, by omega, by go_num, rfl, by rw [unhide HSN2, unhide HPM]; first | rw [min_if] | (congr 1; omega)⟩
          · have HPM : Hid (pmin acc2 p = acc2) := if_neg hkd
            have g5 : (p.kind == 0) = false := by simpa using hkd
            clear hkd
            go_wp2_with fail
            go_roundg (x.l.length - (j + 1))
            case measure => omega
            case rel => exact ⟨j + 1, by omega, by go_num, rfl, by rw [unhide HSN2, unhide HPM]⟩
        · have g3 : decide (j < x.l.length) = false := by simp; omega
          have hte : x.l.take j = x.l := List.take_of_length_le (by omega)
          rw [hte, ← unhide HLX]
          clear hte HLX
          go_wp2_with fail
          go_ret
          rw [unhide HRX]
          exact ⟨rfl, rfl⟩
end Go.Proofs.Ytdommbaljchofaa
