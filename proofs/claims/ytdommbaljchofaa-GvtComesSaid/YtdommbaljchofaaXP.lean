/-
  The statements' world is made.
-/
import Derived.Test.YtdommbaljchofaaXO
import Derived.Deep.LoopGhost
namespace Go.Proofs.Ytdommbaljchofaa
open Go.RowKit Go.Deep
set_option linter.unusedVariables false

/-- A list of lists of numbers lies behind A. -/
structure RowAt (w : World) (b off : Nat) (B : Option Addr) (c : Nat) (L : List Int) : Prop where
  c0 : w.cell? ⟨b, off, none⟩ = some (.slice B L.length c)
  il : IntsAt w B L
def RowsAt (w : World) (A : Option Addr) (n : Nat) (rows : Nat → List Int) : Prop :=
  ∀ i, i < n → ∃ b off B c, A = some ⟨b, off, none⟩ ∧ b < w.heap.size ∧ RowAt w b (off + i) B c (rows i)
theorem RowAt.below {w w' : World} {b off : Nat} {B : Option Addr} {c : Nat} {L : List Int} (h : RowAt w b off B c L) (hl : b < w.heap.size) (hb : Below w.heap.size w w') : RowAt w' b off B c L :=
  ⟨(hb.cell hl).trans h.c0, h.il.only0 (Only.of_below hb [])⟩
theorem RowsAt.below {w w' : World} {A : Option Addr} {n : Nat} {rows : Nat → List Int} (h : RowsAt w A n rows) (hb : Below w.heap.size w w') : RowsAt w' A n rows := by
  intro i hi
  obtain ⟨b, off, B, c, rfl, hlt, hr⟩ := h i hi
  exact ⟨b, off, B, c, rfl, Nat.lt_of_lt_of_le hlt hb.size, hr.below hlt hb⟩
def okTime (v : Int) : Bool := decide (0 ≤ v) && decide (v ≤ 1073741824)
def inRange (L : List Int) : List Int := L.filter okTime

theorem Try.info23 : (Try.prog.info? 23).map (fun i => (i.zero, i.size, i.bytes)) = some (some (.pointer none), 1, 8) := by kernel_rfl
theorem Try.info28 : (Try.prog.info? 28).map (fun i => (i.zero, i.size, i.bytes)) = some (some (.slice none 0 0), 1, 24) := by kernel_rfl

theorem XAt.init {W w w2 : World} {qb tb n : Nat} (hB : Below W.heap.size W w) (hM : MAt w2 qb tb n 0 (fun _ => false) false 0 0)
    (hb : Below (w.heap.size + 1) (w.alloc (.cells #[.slice none 0 0, .slice none 0 0, .slice none 0 0, .pointer none, .int .i64 0, .bool false] 54)) w2) (b1 : w.heap.size + 1 ≤ qb) (b2 : w.heap.size + 1 ≤ tb) :
    XAt W (w2.setCell ⟨w.heap.size, 3, none⟩ (.pointer (some ⟨qb, 0, none⟩))) w.heap.size ⟨qb, tb, none, 0, none, 0, none, 0, [], [], [], n, 0, fun _ => false, false, 0, 0, 0⟩ := by
  have hs := hB.size
  have r1 := World.rowIs_alloc w #[.slice none 0 0, .slice none 0 0, .slice none 0 0, .pointer none, .int .i64 0, .bool false] 54 (fun o => if o = 0 then .slice none 0 0 else if o = 1 then .slice none 0 0 else if o = 2 then .slice none 0 0 else if o = 3 then .pointer none else if o = 4 then .int .i64 0 else .bool false) (by
    intro i hi
    simp at hi
    rcases (show i = 0 ∨ i = 1 ∨ i = 2 ∨ i = 3 ∨ i = 4 ∨ i = 5 by omega) with rfl | rfl | rfl | rfl | rfl | rfl <;> rfl)
  have hOb : Only [] (w.alloc (.cells #[.slice none 0 0, .slice none 0 0, .slice none 0 0, .pointer none, .int .i64 0, .bool false] 54)) w2 := Only.of_below (by simpa using hb) []
  have r2 : w2.rowIs w.heap.size 54 6 _ := hOb.row r1 (by simp)
  have hO : Only [w.heap.size] w2 (w2.setCell ⟨w.heap.size, 3, none⟩ (.pointer (some ⟨qb, 0, none⟩))) := (Only.refl _ _).setIn (by simp) _
  refine ⟨?_, (r2.set 3 _).congr fun o ho => ?_, hs, World.ownsRow_nil _ _ _ _, World.ownsRow_nil _ _ _ _, World.ownsRow_nil _ _ _ _, by simp, by simp, by simp, by simp, by simp, hM.only hO (by simp; omega) (by simp; omega), by show W.heap.size ≤ qb; omega, by show W.heap.size ≤ tb; omega⟩
  · have h1 : Below W.heap.size W (w.alloc (.cells #[.slice none 0 0, .slice none 0 0, .slice none 0 0, .pointer none, .int .i64 0, .bool false] 54)) := hB.alloc hs _
    have h2 : Below W.heap.size W w2 := h1.trans (hb.mono (by omega))
    exact Only.to_below h2 hO (by simp; omega) h2.size
  · rcases (show o = 0 ∨ o = 1 ∨ o = 2 ∨ o = 3 ∨ o = 4 ∨ o = 5 by omega) with rfl | rfl | rfl | rfl | rfl | rfl <;> simp [xF]

section
variable {W w : World}
set_option maxRecDepth 100000 in
set_option maxHeartbeats 4000000 in
theorem made_any {n c : Nat} {A : Option Addr} {rows : Nat → List Int} (hB : Below W.heap.size W w) (h1 : 1 ≤ n) (h2 : n ≤ 8) (hR : RowsAt W A n rows) (hrl : ∀ i < n, (rows i).length ≤ 20) :
    Calls Try.prog 19 #[.slice A n c] w fun e w' => ∃ (xb : Nat) (x : XS), e = .returned (.pointer (some ⟨xb, 0, none⟩)) ∧ XAt W w' xb x ∧
      x.K.map (·.s) = List.replicate n ⟨0, Never, []⟩ ∧ (∀ k ∈ x.K, k.nn = 0) ∧ x.O.map OK.L = (List.range n).map (fun i => inRange (rows i)) ∧ x.l = [] ∧ x.n = n ∧ x.rd = 0 ∧ x.run = false ∧ x.least = 0 ∧ x.time = 0 ∧ x.sent = 0 := by
  obtain ⟨i3, hi3, hy0, hy1, hy2⟩ := info_parts Try.info3'
  obtain ⟨i23, hi23, hu0, hu1, hu2⟩ := info_parts Try.info23
  obtain ⟨i28, hi28, hv0, hv1, hv2⟩ := info_parts Try.info28
  have HB := hide hB
  have HR := hide hR
  have HRL := hide hrl
  clear hB hR hrl
  go_enter Try.func19, Try.ntmps19
  go_wp2_with fail
  refine Calls.mono (newm_ok h1 h2) ?_
  rintro e w2 ⟨qb, tb, rfl, hM, hb, b1, b2⟩
  simp only [World.size_alloc] at hb b1 b2
  have hx0 := XAt.init (W := W) (unhide HB) hM hb b1 b2
  have q3 : w2.cell? ⟨w.heap.size, 3, none⟩ = some (.pointer none) := (hb.cell (p := ⟨w.heap.size, 3, none⟩) (by simp)).trans (new_cells w #[.slice none 0 0, .slice none 0 0, .slice none 0 0, .pointer none, .int .i64 0, .bool false] 54 _ rfl 3 _ rfl)
  have z3 : w2.frozen? ⟨w.heap.size, 3, none⟩ = false := by
    have h' := hx0.z 3
    simpa using h'
  have hlt3 : w.heap.size < w2.heap.size := Nat.lt_of_lt_of_le (by simp) hb.size
  have HX0 := hide hx0
  clear hM hb hx0
  generalize w.heap.size = xb at *
  go_wp2_with fail
  go_loopg [6] n (fun g iv wr => ∃ (i : Nat) (kv : Option Addr) (kc : Nat) (ov : Option Addr) (oc : Nat) (K : List WK) (O : List OK), i + g = n ∧ iv = .int .i64 i ∧ XAt W wr xb ⟨qb, tb, kv, kc, ov, oc, none, 0, K, O, [], n, 0, fun _ => false, false, 0, 0, 0⟩ ∧
    K.map (·.s) = List.replicate i ⟨0, Never, []⟩ ∧ (∀ k ∈ K, k.nn = 0) ∧ O.map OK.L = (List.range i).map (fun i => inRange (rows i)))
  case atStart => exact ⟨0, none, 0, none, 0, [], [], by omega, rfl, unhide HX0, rfl, by simp, rfl⟩
  case round =>
    obtain ⟨i, kv, kc, ov, oc, K, O, hig, rfl, hX, hK, hnn, hOL⟩ := hrel
    have HX := hide hX
    have HK := hide hK
    have HNN := hide hnn
    have HOL := hide hOL
    have hKl : K.length = i := by have := congrArg List.length hK; simpa using this
    have hOl : O.length = i := by have := congrArg List.length hOL; simpa using this
    clear hX hK hnn hOL q3 z3 hlt3
    by_cases hin : i < n
    · obtain ⟨b, off, B, d, rfl, hbl, hr0⟩ := (unhide HR) i hin
      have HRw : Hid (∀ w', Below W.heap.size W w' → RowAt w' b (off + i) B d (rows i)) := fun w' h => hr0.below hbl h
      have hml := (unhide HRL) i hin
      obtain ⟨L, hL⟩ : ∃ L, rows i = L := ⟨_, rfl⟩
      have HLE := hide hL
      rw [hL] at HRw hml
      have g1 : decide (n ≤ i) = false := by simp; omega
      have g2 : decide (i < n) = true := by simp; omega
      clear hr0 hL
      go_wp2_with fail
      refine Calls.mono (new_any _) ?_
      rintro e w5 ⟨wb, mb, rfl, hW5, hb5, b3, b4⟩
      have HX5 := hide ((unhide HX).quiet (Only.of_below hb5 []))
      have HW5 := hide hW5
      have HNE : Hid (∀ k ∈ K, k.wb ≠ wb ∧ k.mb ≠ mb) := fun k hk => by
        have h1 := ((unhide HX).ka k hk).lt
        have h2 := ((unhide HX).ka k hk).lt2
        exact ⟨by omega, by omega⟩
      have hWs := (unhide HX).bl.size
      have c0 := (unhide HX5).c0
      have z0 := (unhide HX5).z 0
      have hxl := (unhide HX5).lt
      have HKR := hide (unhide HX5).kr
      simp only at c0 HKR
      rw [hKl] at c0 HKR
      clear hW5 hb5
      go_wp2_with (at_builtin; refine wpList_append_own_at _ rfl (.tmp 41) (.tmp 43) 50 rfl W.heap.size 23 i23 (.pointer none) 1 8 Try.underlying50 hi23 hu0 hu1 hu2 rfl (by decide) _ _ _ rfl ((unhide HKR).alloc _) ⟨w5.heap.size, 0, none⟩ 1 1 [.pointer (some ⟨wb, 0, none⟩)] rfl rfl (new_cells _ #[.pointer (some ⟨wb, 0, none⟩)] 23 _ rfl) (by intro u hu; simp at hu; rw [hu]; rfl) (by unfold maxLen; omega) (by omega) (by have := (unhide HX5).bl.size; simp; omega) ?_)
      intro v6 w6 hown6 hgrow6 _ _
      obtain ⟨A6, c6, rfl⟩ := owns_form hown6
      have hO6 : Only (ob kv i kc) w5 w6 := (((Only.refl [] w5).alloc _).mono (by simp)).trans (only_grown hgrow6)
      have hnx : xb ∉ ob kv i kc := fun hm => owns_row_ne (unhide HKR) (unhide HX5).hd (by decide) xb (by simpa [ob] using hm) rfl
      have HX6 : Hid (XAt W (w6.setCell ⟨xb, 0, none⟩ (.slice A6 (i + 1) c6)) xb ⟨qb, tb, A6, c6, ov, oc, none, 0, K ++ [⟨wb, mb, 0, ⟨0, Never, []⟩⟩], O, [], n, 0, fun _ => false, false, 0, 0, 0⟩) := by
        have h' := (unhide HX5).addWorker (A' := A6) (c' := c6) (unhide HW5) (by omega) (by omega) (unhide HNE) (by simp only [hKl]; exact hown6) (by simp only [hKl]; exact hO6)
        simp only [hKl] at h'
        exact h'
      have y0 : w6.cell? ⟨xb, 0, none⟩ = some (.slice kv i kc) := (hO6.cell (p := ⟨xb, 0, none⟩) hxl hnx).trans c0
      have yz : w6.frozen? ⟨xb, 0, none⟩ = false := (hO6.frozen (p := ⟨xb, 0, none⟩) hxl hnx).trans z0
      have hxl6 : xb < w6.heap.size := Nat.lt_of_lt_of_le hxl hO6.size
      clear hown6 hgrow6 hO6 hnx c0 z0 hxl
      go_wp2_with fail
      generalize w6.setCell ⟨xb, 0, none⟩ _ = w7 at *
      clear y0 yz hxl6
      have hbW := hbl
      have HROW : Hid (∀ w', Only [] w7 w' → RowAt w' b (off + i) B d L ∧ b < w'.heap.size) := fun w' h => by
        have hbw := Only.to_below (unhide HX6).bl h (by simp) (unhide HX6).bl.size
        exact ⟨(unhide HRw) w' hbw, Nat.lt_of_lt_of_le hbW hbw.size⟩
      go_loopg [8, 9] L.length (fun q v8 v9 wz => ∃ (j : Nat) (N : Option Addr) (dd : Nat), j + q = L.length ∧ v9 = .int .i64 j ∧ v8 = .slice N (inRange (L.take j)).length dd ∧ Only [] w7 wz ∧ OwnsI wz w7.heap.size N dd (inRange (L.take j)))
      case atStart => exact ⟨0, none, 0, by omega, rfl, rfl, Only.refl _ _, OwnsI.nil _ _⟩
      case round =>
        obtain ⟨j, N, dd, hjq, rfl, rfl, hOz, hNz⟩ := hrel
        have hrow := (unhide HROW) _ hOz
        have rc := hrow.1.c0
        have hbz := hrow.2
        have HIL := hide hrow.1.il
        have HOz := hide hOz
        have HNz := hide hNz
        have hszz := hOz.size
        clear hrow hOz hNz
        by_cases hj : j < L.length
        · obtain ⟨b9, o9, rfl, hb9, hc9⟩ := (unhide HIL) j hj
          obtain ⟨v, hv⟩ : ∃ v, L[j]'hj = v := ⟨_, rfl⟩
          rw [hv] at hc9
          have hsn : inRange (L.take (j + 1)) = inRange (L.take j) ++ (if okTime v then [v] else []) := by
            unfold inRange
            rw [List.take_succ_eq_append_getElem hj, List.filter_append, hv]
            congr 1
            cases hk : okTime v <;> simp [hk]
          have HSN := hide hsn
          have hll : (inRange (L.take j)).length ≤ 20 := by
            have h1 := List.length_filter_le okTime (L.take j)
            have h2 : (L.take j).length ≤ L.length := by simp; omega
            unfold inRange
            omega
          have g3 : decide (L.length ≤ j) = false := by simp; omega
          have g4 : decide (j < L.length) = true := by simp; omega
          obtain ⟨E, hE⟩ : ∃ E, inRange (L.take j) = E := ⟨_, rfl⟩
          rw [hE] at HSN HNz hll ⊢
          clear hsn hv hE
          by_cases hv0 : 0 ≤ v
          · by_cases hv1 : v ≤ 1073741824
            · have HOK : Hid (okTime v = true) := by show okTime v = true; simp [okTime, hv0, hv1]
              have HNo : Hid (wr.ownsRow w7.heap.size 3 1 (.slice N E.length dd) E.length (E.map fun k => .int .i64 k)) := unhide HNz
              have d0 : decide (0 ≤ v) = true := by simpa using hv0
              have d1 : decide (v ≤ 1073741824) = true := by simpa using hv1
              go_wp2_with (at_builtin; refine wpList_append_own_at _ rfl (.tmp 74) (.tmp 82) 28 rfl w7.heap.size 3 i3 (.int .i64 0) 1 8 Try.underlying28 hi3 hy0 hy1 hy2 rfl (by decide) _ _ _ rfl ((unhide HNo).alloc _) ⟨wr.heap.size, 0, none⟩ 1 1 [.int .i64 v] rfl rfl (new_cells _ #[.int .i64 v] 3 _ rfl) (by intro u hu; simp at hu; rw [hu]; rfl) (by unfold maxLen; omega) (by omega) (by simp; omega) ?_)
              intro v8' w8 hown8 hgrow8 _ _
              obtain ⟨N8, d8, rfl⟩ := owns_form hown8
              have hO8 : Only [] w7 w8 := ((unhide HOz).alloc _).grown_new hgrow8 (owned_ge (unhide HNo))
              have HO8 := hide hO8
              have HN8 : Hid (OwnsI w8 w7.heap.size N8 d8 (E ++ [v])) := by
                show OwnsI w8 w7.heap.size N8 d8 (E ++ [v])
                unfold OwnsI
                simpa [List.length_append, List.map_append] using hown8
              clear hO8 hown8 hgrow8 rc hc9
              go_wp2_with fail
              go_roundg (L.length - (j + 1))
              case measure => omega
              case rel =>
                refine ⟨j + 1, N8, d8, by omega, by go_num, ?_, unhide HO8, ?_⟩
                · rw [unhide HSN, unhide HOK]; simp
                · rw [unhide HSN, unhide HOK]; exact unhide HN8
            · have HOK : Hid (okTime v = false) := by show okTime v = false; simp only [okTime]; simp; omega
              have d0 : decide (0 ≤ v) = true := by simpa using hv0
              have d1 : decide (v ≤ 1073741824) = false := by simpa using hv1
              go_wp2_with fail
              go_roundg (L.length - (j + 1))
              case measure => omega
              case rel =>
                refine ⟨j + 1, N, dd, by omega, by go_num, ?_, unhide HOz, ?_⟩
                · rw [unhide HSN, unhide HOK]; simp
                · rw [unhide HSN, unhide HOK]; simpa using unhide HNz
          · have HOK : Hid (okTime v = false) := by show okTime v = false; simp only [okTime]; simp; omega
            have d0 : decide (0 ≤ v) = false := by simpa using hv0
            go_wp2_with fail
            go_roundg (L.length - (j + 1))
            case measure => omega
            case rel =>
              refine ⟨j + 1, N, dd, by omega, by go_num, ?_, unhide HOz, ?_⟩
              · rw [unhide HSN, unhide HOK]; simp
              · rw [unhide HSN, unhide HOK]; simpa using unhide HNz
        · have g4 : decide (j < L.length) = false := by simp; omega
          have hte : L.take j = L := List.take_of_length_le (by omega)
          rw [hte] at HNz ⊢
          clear hte
          have hXz := (unhide HX6).quiet (unhide HOz)
          have HXz := hide hXz
          have c1 := hXz.c1
          have z1 := hXz.z 1
          have hxlz := hXz.lt
          have HOR := hide hXz.ow
          simp only at c1 HOR
          rw [hOl] at c1 HOR
          have HNE2 : Hid (∀ o ∈ O, ∀ g, o.val.ownBlock = some g → (Value.slice N (inRange L).length dd).ownBlock ≠ some g) := fun o ho g hg hg2 => by
            have h1 := owned_lt ((unhide HX6).oa o ho) g hg
            have h2 := owned_ge (unhide HNz) g (by simpa using hg2)
            omega
          have hbs := hXz.bl.size
          have hWs7 := (unhide HX6).bl.size
          clear hXz
          go_wp2_with (at_builtin; refine wpList_append_own_at _ rfl (.tmp 88) (.tmp 90) 42 rfl W.heap.size 28 i28 (.slice none 0 0) 1 24 Try.underlying42 hi28 hv0 hv1 hv2 rfl (by decide) _ _ _ rfl ((unhide HOR).alloc _) ⟨wr.heap.size, 0, none⟩ 1 1 [.slice N (inRange L).length dd] rfl rfl (new_cells _ #[.slice N (inRange L).length dd] 28 _ rfl) (by intro u hu; simp at hu; rw [hu]; rfl) (by unfold maxLen; omega) (by omega) (by simp; omega) ?_)
          intro v9 w9 hown9 hgrow9 _ _
          obtain ⟨A9, c9, rfl⟩ := owns_form hown9
          have hO9 : Only (ob ov i oc) wr w9 := (((Only.refl [] wr).alloc _).mono (by simp)).trans (only_grown hgrow9)
          have hnx : xb ∉ ob ov i oc := fun hm => owns_row_ne (unhide HOR) (unhide HXz).hd (by decide) xb (by simpa [ob] using hm) rfl
          have HX9 : Hid (XAt W (w9.setCell ⟨xb, 1, none⟩ (.slice A9 (i + 1) c9)) xb ⟨qb, tb, A6, c6, A9, c9, none, 0, K ++ [⟨wb, mb, 0, ⟨0, Never, []⟩⟩], O ++ [⟨N, dd, inRange L⟩], [], n, 0, fun _ => false, false, 0, 0, 0⟩) := by
            have h' := (unhide HXz).addOpen (A' := A9) (c' := c9) ((unhide HNz).weaken hWs7) (unhide HNE2) (by simp only [hOl]; exact hown9) (by simp only [hOl]; exact hO9)
            simp only [hOl] at h'
            exact h'
          have y1 : w9.cell? ⟨xb, 1, none⟩ = some (.slice ov i oc) := (hO9.cell (p := ⟨xb, 1, none⟩) hxlz hnx).trans c1
          have yz1 : w9.frozen? ⟨xb, 1, none⟩ = false := (hO9.frozen (p := ⟨xb, 1, none⟩) hxlz hnx).trans z1
          have hxl9 : xb < w9.heap.size := Nat.lt_of_lt_of_le hxlz hO9.size
          clear hown9 hgrow9 hO9 hnx c1 z1 hxlz rc
          go_wp2_with fail
          go_roundg (n - (i + 1))
          case measure => omega
          case rel =>
            refine ⟨i + 1, A6, c6, A9, c9, _, _, by omega, by go_num, unhide HX9, ?_, ?_, ?_⟩
            · rw [List.map_append, unhide HK, List.replicate_succ']; rfl
            · intro k hk
              simp only [List.mem_append, List.mem_singleton] at hk
              rcases hk with hk | rfl
              · exact (unhide HNN) k hk
              · rfl
            · rw [List.map_append, unhide HOL, List.range_succ, List.map_append, List.map_singleton, List.map_singleton, unhide HLE]
    · have g2 : decide (i < n) = false := by simp; omega
      have e : i = n := by omega
      subst e
      go_wp2_with fail
      go_ret
      exact ⟨xb, _, rfl, unhide HX, unhide HK, unhide HNN, unhide HOL, rfl, rfl, rfl, rfl, rfl, rfl, rfl⟩
end
end Go.Proofs.Ytdommbaljchofaa
