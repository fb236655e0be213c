/-
  The statements' world: a start comes.
-/
import Derived.Test.YtdommbaljchofaaXI
namespace Go.Proofs.Ytdommbaljchofaa
open Go.RowKit Go.Deep
set_option linter.unusedVariables false
set_option linter.unusedSimpArgs false
section
variable {W w : World} {xb : Nat} {x : XS}
set_option maxRecDepth 100000 in
set_option maxHeartbeats 8000000 in
theorem comes_start {which : Int} {i d : Nat} {p : Pk} {k : WK} {o : OK} (h : XAt W w xb x) (hil : i < x.l.length) (hp : x.l[i]? = some p) (hll : x.l.length ≤ 100000) (ei : (wrap64 (which.tmod (x.l.length : Int) + (x.l.length : Int))).tmod (x.l.length : Int) = (i : Int)) (hkd : p.kind = 2) (hdst : p.dst = (d : Int)) (hk : x.K[d]? = some k) (ho : x.O[d]? = some o) (hcode : startCode k.s.rd p.no o.L = 0) (h0 : 0 ≤ k.s.rd) (h1 : k.s.rd ≤ 1000000) (hoL : o.L.length ≤ 1000000) :
    Calls Try.prog 23 #[.pointer (some ⟨xb, 0, none⟩), .int .i64 which] w fun e w' => e = .returned (.tuple #[]) ∧ ∃ lv' lc', XAt W w' xb { x with lv := lv', lc := lc', l := x.l.eraseIdx i ++ [⟨3, (d : Int), 0, p.no, startRes k.s.M k.s.rd k.s.lo p.no o.L⟩], K := x.K.set d ⟨k.wb, k.mb, k.nn, ⟨startRd k.s.rd p.no o.L, startLo k.s.rd k.s.lo p.no o.L, k.s.M⟩⟩ } := by
  obtain ⟨i0, hi, hz0, hz1, hz2⟩ := info_parts Try.info79
  have c2 := h.c2
  have hlt := h.lt
  obtain ⟨g, hlv, hg, hcap, ⟨q0, q1, q2, q3, q4⟩⟩ := h.atL hp
  rw [hlv] at c2
  have HCL : Hid (∀ j u, (x.l.flatMap Pk.cells)[j]? = some u → w.cell? ⟨g, j, none⟩ = some u) := by
    obtain ⟨g', hg', _, _, hc, _⟩ := own_at h.lr (by omega)
    rw [hlv] at hg'
    injection hg' with hg'
    injection hg' with hg'
    subst hg'
    exact hc
  have HKD := hide hkd
  have HDS := hide hdst
  have HKK := hide hk
  have HOO := hide ho
  have HCD := hide hcode
  clear hkd hdst hk ho hcode
  obtain ⟨nl, hnl⟩ : ∃ nl, x.l.length = nl := ⟨_, rfl⟩
  obtain ⟨T, hT⟩ : ∃ T, (x.l.drop 0).take i = T := ⟨_, rfl⟩
  obtain ⟨D, hD⟩ : ∃ D, (x.l.drop (i + 1)).take x.l.length = D := ⟨_, rfl⟩
  have eT : T.length = i := by rw [← hT]; simp; omega
  have eD : D.length = nl - (i + 1) := by rw [← hD]; simp; omega
  have HTD : Hid (x.l.eraseIdx i = T ++ D) := by
    show x.l.eraseIdx i = T ++ D
    rw [← hT, ← hD, List.eraseIdx_eq_take_drop_succ, List.drop_zero, List.take_of_length_le (l := x.l.drop (i + 1)) (by simp)]
  have HT := hide hT
  have HD := hide hD
  have HET := hide eT
  have HED := hide eD
  have H := hide h
  have HP := hide hp
  have HLV := hide hlv
  rw [hnl] at c2 ei hil hcap hll
  have HNL := hide hnl
  have g1 : decide (nl ≤ i) = false := by simp; omega
  have g2 : decide (i < nl) = true := by simp; omega
  have g3 : (nl == 0) = false := beq_false_of_ne (by omega)
  have g4 : ((nl : Int) == 0) = false := beq_false_of_ne (by omega)
  have g5 : ¬ (nl = 0) := by omega
  clear h hp hlv hnl hT hD eT eD 
  go_enter Try.func23, Try.ntmps23
  go_upto_region 5 with fail
  obtain ⟨w1, hw1⟩ : ∃ w1, w1 = (w.alloc (.cells #[.int .i64 p.kind, .int .i64 p.fr, .int .i64 p.dst, .int .i64 p.no, .int .i64 p.tm] 79)) := ⟨_, rfl⟩
  rw [← hw1]
  have hO1 : Only [] w w1 := by rw [hw1]; exact (Only.refl _ _).alloc _
  have hkb : w.heap.size < w1.heap.size := by rw [hw1]; simp
  have HPK : Hid (w1.rowIs w.heap.size 79 5 (pkF p)) := by
    show w1.rowIs w.heap.size 79 5 (pkF p)
    rw [hw1]
    exact World.rowIs_alloc w #[.int .i64 p.kind, .int .i64 p.fr, .int .i64 p.dst, .int .i64 p.no, .int .i64 p.tm] 79 (pkF p) (by
      intro i hi
      simp at hi
      rcases (show i = 0 ∨ i = 1 ∨ i = 2 ∨ i = 3 ∨ i = 4 by omega) with rfl | rfl | rfl | rfl | rfl <;> rfl)
  have HX1 := hide ((unhide H).quiet hO1)
  have HCL1 : Hid (∀ j u, (x.l.flatMap Pk.cells)[j]? = some u → w1.cell? ⟨g, j, none⟩ = some u) := fun j u hj => (hO1.cell (p := ⟨g, j, none⟩) hg (by simp)).trans ((unhide HCL) j u hj)
  have c2' : w1.cell? ⟨xb, 2, none⟩ = some (.slice (some ⟨g, 0, none⟩) nl x.lc) := (hO1.cell (p := ⟨xb, 2, none⟩) hlt (by simp)).trans c2
  have hlt1 : xb < w1.heap.size := Nat.lt_of_lt_of_le hlt hO1.size
  have hg1 : g < w1.heap.size := Nat.lt_of_lt_of_le hg hO1.size
  have hz2x := (unhide HX1).z 2
  clear hw1 hO1 q0 q1 q2 q3 q4 c2 hg HCL H
  generalize w.heap.size = pb at *
  go_upto_region 6 with (at_builtin; refine wpList_append_own_at _ rfl (.tmp 34) (.tmp 40) 51 rfl w1.heap.size 79 i0 (.agg #[.int .i64 0, .int .i64 0, .int .i64 0, .int .i64 0, .int .i64 0]) 5 40 Try.underlying51 hi hz0 hz1 hz2 rfl (by decide) _ _ _ rfl (World.ownsRow_nil _ _ _ _) ⟨g, 0, none⟩ T.length x.lc (T.flatMap Pk.cells) (by rw [unhide HET]; rfl) (pk_len _) (by have h' := pk_news (unhide HT) (unhide HCL1) (Nat.zero_le _); simpa using h') (pk_ones _) (by have := unhide HET; unfold maxLen; omega) (by have := unhide HET; omega) (Nat.le_refl _) ?_)
  intro v1 w2 hown1 hgrow1 _ _
  obtain ⟨N1, d1', rfl⟩ := owns_form hown1
  have hO2 : Only [] w1 w2 := (Only.refl [] w1).grown_new (v := .slice none 0 0) hgrow1 (by simp [Value.ownBlock])
  have HN1 : Hid (w2.ownsRow w1.heap.size 79 5 (.slice N1 i d1') i (T.flatMap Pk.cells)) := by
    have h' := hown1
    simp only [Nat.zero_add, List.nil_append, unhide HET] at h'
    exact h'
  have HCL2 : Hid (∀ j u, (x.l.flatMap Pk.cells)[j]? = some u → w2.cell? ⟨g, j, none⟩ = some u) := fun j u hj => (hO2.cell (p := ⟨g, j, none⟩) hg1 (by simp)).trans ((unhide HCL1) j u hj)
  have c22 : w2.cell? ⟨xb, 2, none⟩ = some (.slice (some ⟨g, 0, none⟩) nl x.lc) := (hO2.cell (p := ⟨xb, 2, none⟩) hlt1 (by simp)).trans c2'
  have z22 : w2.frozen? ⟨xb, 2, none⟩ = false := (hO2.frozen (p := ⟨xb, 2, none⟩) hlt1 (by simp)).trans hz2x
  have hlt2 : xb < w2.heap.size := Nat.lt_of_lt_of_le hlt1 hO2.size
  have hs2 := hO2.size
  have HO2 := hide hO2
  clear hO2 hown1 hgrow1 c2' hz2x HCL1
  try rw [unhide HET]
  try simp only [Nat.zero_add]
  go_upto_region 6 with fail
  go_cut [] (fun wx => ∃ lv' lc', XAt W wx xb { x with lv := lv', lc := lc', l := x.l.eraseIdx i } ∧ wx.rowIs pb 79 5 (pkF p) ∧ pb < wx.heap.size ∧ pb ∉ ob lv' (x.l.eraseIdx i).length lc')
  case first =>
    by_cases hci : x.lc = i + 1
    · have hD0 : D = [] := List.eq_nil_of_length_eq_zero (by have := unhide HED; omega)
      have HD0 := hide hD0
      have HCI : Hid (x.lc - (i + 1) = 0) := by show x.lc - (i + 1) = 0; omega
      clear hD0
      go_wp2_with (at_builtin; refine wpList_append_own_at _ rfl (.tmp 43) (.tmp 50) 51 rfl w1.heap.size 79 i0 (.agg #[.int .i64 0, .int .i64 0, .int .i64 0, .int .i64 0, .int .i64 0]) 5 40 Try.underlying51 hi hz0 hz1 hz2 rfl (by decide) _ _ _ rfl (unhide HN1) ⟨g, 0, none⟩ D.length 0 (D.flatMap Pk.cells) (by rw [unhide HED]; rfl) (pk_len _) (by rw [unhide HD0]; intro j u hj; simp at hj) (pk_ones _) (by have := unhide HED; unfold maxLen; omega) (by have := unhide HED; omega) (by omega) ?_)
      intro v3 w3 hown3 hgrow3 _ _
      obtain ⟨N3, d3', rfl⟩ := owns_form hown3
      have hl' : i + D.length = (x.l.eraseIdx i).length := by rw [unhide HTD, List.length_append, unhide HET]
      have hO3 : Only [] w1 w3 := (unhide HO2).grown_new hgrow3 (owned_ge (unhide HN1))
      have HO3 := hide hO3
      have hown3' : w3.ownsRow w1.heap.size 79 5 (.slice N3 (x.l.eraseIdx i).length d3') (x.l.eraseIdx i).length ((x.l.eraseIdx i).flatMap Pk.cells) := by
        rw [← hl', unhide HTD, List.flatMap_append]
        exact hown3
      have HW3 := hide hown3'
      have hX3 := (unhide HX1).packets (l' := x.l.eraseIdx i) (lv' := N3) (lc' := d3') (owns_weaken (unhide HW3) (unhide HX1).bl.size) (hO3.mono (by simp))
      have HX3 := hide hX3
      have q2 : w3.cell? ⟨xb, 2, none⟩ = some (.slice (some ⟨g, 0, none⟩) nl x.lc) := ((unhide HO3).cell (p := ⟨xb, 2, none⟩) hlt1 (by simp)).trans (((unhide HO2).cell (p := ⟨xb, 2, none⟩) hlt1 (by simp)).symm.trans c22)
      have y2 : w3.frozen? ⟨xb, 2, none⟩ = false := ((unhide HO3).frozen (p := ⟨xb, 2, none⟩) hlt1 (by simp)).trans (((unhide HO2).frozen (p := ⟨xb, 2, none⟩) hlt1 (by simp)).symm.trans z22)
      have hlt3 : xb < w3.heap.size := Nat.lt_of_lt_of_le hlt1 hO3.size
      have hpx : pb ≠ xb := fun e => by omega
      have HPK3 : Hid ((w3.setCell ⟨xb, 2, none⟩ (.slice N3 (x.l.eraseIdx i).length d3')).rowIs pb 79 5 (pkF p)) := ((unhide HO3).row (unhide HPK) (by simp)).setOther hpx _
      have HNB : Hid (pb ∉ ob N3 (x.l.eraseIdx i).length d3') := fun hm => by
        have := owned_ge (unhide HW3) pb (by simpa [ob] using hm)
        omega
      have HSZ : Hid (pb < (w3.setCell ⟨xb, 2, none⟩ (.slice N3 (x.l.eraseIdx i).length d3')).heap.size) := by
        show pb < _
        rw [World.size_setCell]
        exact Nat.lt_of_lt_of_le hkb (unhide HO3).size
      clear hown3 hgrow3 hO3 hown3' hX3
      rw [hl']
      go_wp2_with fail
      go_meet
      exact ⟨N3, d3', unhide HX3, unhide HPK3, unhide HSZ, unhide HNB⟩
    · have hci' : (x.lc = i + 1) = False := by simp [hci]
      go_wp2_with (at_builtin; refine wpList_append_own_at _ rfl (.tmp 43) (.tmp 50) 51 rfl w1.heap.size 79 i0 (.agg #[.int .i64 0, .int .i64 0, .int .i64 0, .int .i64 0, .int .i64 0]) 5 40 Try.underlying51 hi hz0 hz1 hz2 rfl (by decide) _ _ _ rfl (unhide HN1) ⟨g, (i + 1) * 5, none⟩ D.length (x.lc - (i + 1)) (D.flatMap Pk.cells) (by rw [unhide HED]; rfl) (pk_len _) (pk_news (unhide HD) (unhide HCL2) (by have := unhide HNL; omega)) (pk_ones _) (by have := unhide HED; unfold maxLen; omega) (by have := unhide HED; omega) (by omega) ?_)
      intro v3 w3 hown3 hgrow3 _ _
      obtain ⟨N3, d3', rfl⟩ := owns_form hown3
      have hl' : i + D.length = (x.l.eraseIdx i).length := by rw [unhide HTD, List.length_append, unhide HET]
      have hO3 : Only [] w1 w3 := (unhide HO2).grown_new hgrow3 (owned_ge (unhide HN1))
      have HO3 := hide hO3
      have hown3' : w3.ownsRow w1.heap.size 79 5 (.slice N3 (x.l.eraseIdx i).length d3') (x.l.eraseIdx i).length ((x.l.eraseIdx i).flatMap Pk.cells) := by
        rw [← hl', unhide HTD, List.flatMap_append]
        exact hown3
      have HW3 := hide hown3'
      have hX3 := (unhide HX1).packets (l' := x.l.eraseIdx i) (lv' := N3) (lc' := d3') (owns_weaken (unhide HW3) (unhide HX1).bl.size) (hO3.mono (by simp))
      have HX3 := hide hX3
      have q2 : w3.cell? ⟨xb, 2, none⟩ = some (.slice (some ⟨g, 0, none⟩) nl x.lc) := ((unhide HO3).cell (p := ⟨xb, 2, none⟩) hlt1 (by simp)).trans (((unhide HO2).cell (p := ⟨xb, 2, none⟩) hlt1 (by simp)).symm.trans c22)
      have y2 : w3.frozen? ⟨xb, 2, none⟩ = false := ((unhide HO3).frozen (p := ⟨xb, 2, none⟩) hlt1 (by simp)).trans (((unhide HO2).frozen (p := ⟨xb, 2, none⟩) hlt1 (by simp)).symm.trans z22)
      have hlt3 : xb < w3.heap.size := Nat.lt_of_lt_of_le hlt1 hO3.size
      have hpx : pb ≠ xb := fun e => by omega
      have HPK3 : Hid ((w3.setCell ⟨xb, 2, none⟩ (.slice N3 (x.l.eraseIdx i).length d3')).rowIs pb 79 5 (pkF p)) := ((unhide HO3).row (unhide HPK) (by simp)).setOther hpx _
      have HNB : Hid (pb ∉ ob N3 (x.l.eraseIdx i).length d3') := fun hm => by
        have := owned_ge (unhide HW3) pb (by simpa [ob] using hm)
        omega
      have HSZ : Hid (pb < (w3.setCell ⟨xb, 2, none⟩ (.slice N3 (x.l.eraseIdx i).length d3')).heap.size) := by
        show pb < _
        rw [World.size_setCell]
        exact Nat.lt_of_lt_of_le hkb (unhide HO3).size
      clear hown3 hgrow3 hO3 hown3' hX3
      rw [hl']
      go_wp2_with fail
      go_meet
      exact ⟨N3, d3', unhide HX3, unhide HPK3, unhide HSZ, unhide HNB⟩
  case rest =>
    obtain ⟨lv', lc', hX, hPR, hpl, hnb⟩ := hcut
    have HX := hide hX
    have q0 : wc.cell? ⟨pb, 0, none⟩ = some (.int .i64 2) := (hPR.cell (show 0 < 5 by omega)).trans (by show some (Value.int .i64 p.kind) = _; rw [unhide HKD])
    have q2 : wc.cell? ⟨pb, 2, none⟩ = some (.int .i64 (d : Int)) := (hPR.cell (show 2 < 5 by omega)).trans (by show some (Value.int .i64 p.dst) = _; rw [unhide HDS])
    have q3 : wc.cell? ⟨pb, 3, none⟩ = some (.int .i64 p.no) := hPR.cell (show 3 < 5 by omega)
    have hkx : ({ x with lv := lv', lc := lc', l := x.l.eraseIdx i } : XS).K[d]? = some k := unhide HKK
    have hox : ({ x with lv := lv', lc := lc', l := x.l.eraseIdx i } : XS).O[d]? = some o := unhide HOO
    have hka := hX.ka k (List.mem_of_getElem? hkx)
    obtain ⟨gk, hkv, hgkl, hkc⟩ := hX.atK hkx
    obtain ⟨go, hov, hgol, hoc, _⟩ := hX.atO hox
    simp only at hkv hov
    have hoI := (hX.oa o (List.mem_of_getElem? hox)).ints
    have r0 := hX.c0
    have r1 := hX.c1
    have r5 := hX.c5
    have rz5 := hX.z 5
    have hxl := hX.lt
    simp only at r0 r1
    rw [hkv] at r0
    rw [hov] at r1
    obtain ⟨nK, hnK⟩ : ∃ nK, x.K.length = nK := ⟨_, rfl⟩
    obtain ⟨nO, hnO⟩ : ∃ nO, x.O.length = nO := ⟨_, rfl⟩
    rw [hnK] at r0
    rw [hnO] at r1
    have hdK : d < nK := by rw [← hnK]; exact (List.getElem?_eq_some_iff.1 (unhide HKK)).1
    have hdO : d < nO := by rw [← hnO]; exact (List.getElem?_eq_some_iff.1 (unhide HOO)).1
    obtain ⟨res, hres⟩ : ∃ res, startRes k.s.M k.s.rd k.s.lo p.no o.L = res := ⟨_, rfl⟩
    have HRES := hide hres
    have HC : Hid (Calls Try.prog 17 #[.pointer (some ⟨k.wb, 0, none⟩), .int .i64 p.no, .slice o.A o.L.length o.c] wc.drew fun e w' => e = .returned (.tuple #[.int .i64 res, .int .i64 0]) ∧ WAt w' k.wb k.mb k.nn (startRd k.s.rd p.no o.L) (startLo k.s.rd k.s.lo p.no o.L) k.s.M ∧ Only [k.wb, k.mb] wc.drew w') := by
      have h' := start_any (c := o.c) (round := p.no) (hka.only0 ((Only.refl _ _).drew)) h0 h1 hoL (hoI.only0 ((Only.refl _ _).drew))
      rw [unhide HCD, hres] at h'
      exact h'
    have HNX : Hid (xb ∉ [k.wb, k.mb] ∧ gk ∉ [k.wb, k.mb] ∧ pb ∉ [k.wb, k.mb] ∧ go ∉ [k.wb, k.mb]) := by
      obtain ⟨D, hD, _⟩ := hka.mp
      have hkr := hX.kr
      have how := hX.ow
      refine ⟨?_, ?_, ?_, ?_⟩
      · simp only [List.mem_cons, List.not_mem_nil, or_false, not_or]
        exact ⟨row_ne hX.hd hka.hd (by decide), fun e => map_row_ne hD hX.hd e.symm⟩
      · simp only [List.mem_cons, List.not_mem_nil, or_false, not_or]
        have e1 := owns_row_ne hkr hka.hd (by decide) gk (by simp [hkv, Value.ownBlock])
        have e2 := map_owns_ne hD hkr gk (by simp [hkv, Value.ownBlock])
        exact ⟨e1, fun e => e2 e.symm⟩
      · simp only [List.mem_cons, List.not_mem_nil, or_false, not_or]
        exact ⟨row_ne hPR hka.hd (by decide), fun e => map_row_ne hD hPR e.symm⟩
      · simp only [List.mem_cons, List.not_mem_nil, or_false, not_or]
        have e1 := owns_row_ne how hka.hd (by decide) go (by simp [hov, Value.ownBlock])
        have e2 := map_owns_ne hD how go (by simp [hov, Value.ownBlock])
        exact ⟨e1, fun e => e2 e.symm⟩
    clear hka hX hPR hoI hres
    have gi : decide (nK ≤ d) = false := by simp; omega
    have gi2 : decide (d < nK) = true := by simp; omega
    have gi3 : (0 : Int) ≤ (d : Int) := by omega
    have gi4 : (d : Int) < (nK : Int) := by omega
    have gi5 : ¬ ((nK : Int) ≤ (d : Int)) := by omega
    have gj : decide (nO ≤ d) = false := by simp; omega
    have gj2 : decide (d < nO) = true := by simp; omega
    have gj4 : (d : Int) < (nO : Int) := by omega
    have gj5 : ¬ ((nO : Int) ≤ (d : Int)) := by omega
    go_wp2_with fail
    go_region_held3 (fun w' => w'.cell? ⟨xb, 0, none⟩ = some (.slice (some ⟨gk, 0, none⟩) nK x.kc) ∧ w'.cell? ⟨gk, d, none⟩ = some (.pointer (some ⟨k.wb, 0, none⟩)) ∧ w'.cell? ⟨pb, 2, none⟩ = some (.int .i64 (d : Int)) ∧ w'.cell? ⟨pb, 3, none⟩ = some (.int .i64 p.no) ∧ w'.cell? ⟨xb, 1, none⟩ = some (.slice (some ⟨go, 0, none⟩) nO x.oc) ∧ w'.cell? ⟨go, d, none⟩ = some (.slice o.A o.L.length o.c)) (first | exact ⟨r0, hkc, q2, q3, r1, hoc⟩ | exact unhide HKP | go_keep) (first | (go_at_call 17; (with_reducible refine Calls.mono (unhide HC) ?_); rintro e w2 ⟨rfl, hW2, hO2⟩; have HKP := hide (And.intro ((hO2.cell (p := ⟨xb, 0, none⟩) hxl (unhide HNX).1).trans r0) (And.intro ((hO2.cell (p := ⟨gk, d, none⟩) hgkl (unhide HNX).2.1).trans hkc) (And.intro ((hO2.cell (p := ⟨pb, 2, none⟩) hpl (unhide HNX).2.2.1).trans q2) (And.intro ((hO2.cell (p := ⟨pb, 3, none⟩) hpl (unhide HNX).2.2.1).trans q3) (And.intro ((hO2.cell (p := ⟨xb, 1, none⟩) hxl (unhide HNX).1).trans r1) ((hO2.cell (p := ⟨go, d, none⟩) hgol (unhide HNX).2.2.2).trans hoc)))))); have hpl2 : pb < w2.heap.size := Nat.lt_of_lt_of_le hpl hO2.size; have HW2 := hide hW2; have HO2 : Hid (Only [k.wb, k.mb] wc w2) := hO2.undrew2; clear hW2 hO2))
    have hX4 := (unhide HX).worker (s' := ⟨startRd k.s.rd p.no o.L, startLo k.s.rd k.s.lo p.no o.L, k.s.M⟩) hkx (unhide HW2) (unhide HO2)
    have HX4 := hide hX4
    obtain ⟨_, _, e2, e3, _⟩ := unhide HKP
    clear r0 hkc q0 q2 q3 r5 rz5 r1 hoc hX4
    have s2 := (unhide HX4).c2
    have sz2 := (unhide HX4).z 2
    have hxl2 := (unhide HX4).lt
    have HLR := hide (unhide HX4).lr'
    simp only at s2 HLR
    have hln : (x.l.eraseIdx i).length ≤ 100000 := by
      have h1 := List.length_eraseIdx_le x.l i
      have h2 := unhide HNL
      omega
    clear HKP HC HO2 HW2
    go_wp2_with fail
    refine wp_region_T (fun w' => w'.cell? ⟨xb, 2, none⟩ = some (.slice lv' (x.l.eraseIdx i).length lc') ∧ w'.cell? ⟨pb, 2, none⟩ = some (.int .i64 (d : Int)) ∧ w'.cell? ⟨pb, 3, none⟩ = some (.int .i64 p.no)) 15 16 rfl (by kernel_rfl) (by kernel_rfl) (fun hN hcl => ?_)
    have hS0 : w2.drew.cell? ⟨xb, 2, none⟩ = some (.slice lv' (x.l.eraseIdx i).length lc') ∧ w2.drew.cell? ⟨pb, 2, none⟩ = some (.int .i64 (d : Int)) ∧ w2.drew.cell? ⟨pb, 3, none⟩ = some (.int .i64 p.no) := ⟨s2, e2, e3⟩
    refine wpAnyT_take (i := 0) (v := ?_) (some 161) (by kernel_rfl) (by kernel_rfl) (by kernel_rfl) (by kernel_rfl) hN (by decide) hcl (fun _ _ _ h => h) (fun oi hoi => ?hy301) hS0 ?rs301
    case hy301 =>
      simp only [List.getElem?_toArray, List.getElem?_cons_succ, List.getElem?_cons_zero, Option.some.injEq] at hoi
      subst hoi
      refine ⟨rfl, Or.inl ⟨by rfl, ?_⟩⟩
      intro w hSw
      try dsimp only at hSw
      go_simp
      try with_reducible rfl
    clear hcl
    intro hcl
    try simp only [Act.put, List.setIfInBounds_toArray, List.set_cons_zero, List.set_cons_succ]
    refine wpAnyT_take (i := 1) (v := ?_) (some 162) (by kernel_rfl) (by kernel_rfl) (by kernel_rfl) (by kernel_rfl) hN (by decide) hcl (fun _ _ _ h => h) (fun oi hoi => ?hy302) hS0 ?rs302
    case hy302 =>
      simp only [List.getElem?_toArray, List.getElem?_cons_succ, List.getElem?_cons_zero, Option.some.injEq] at hoi
      subst hoi
      refine ⟨rfl, Or.inl ⟨by rfl, ?_⟩⟩
      intro w hSw
      try dsimp only at hSw
      go_simp
      try with_reducible rfl
    clear hcl
    intro hcl
    try simp only [Act.put, List.setIfInBounds_toArray, List.set_cons_zero, List.set_cons_succ]
    refine wpAnyT_take (i := 2) (v := ?_) (some 163) (by kernel_rfl) (by kernel_rfl) (by kernel_rfl) (by kernel_rfl) hN (by decide) hcl (fun _ _ _ h => h) (fun oi hoi => ?hy303) hS0 ?rs303
    case hy303 =>
      simp only [List.getElem?_toArray, List.getElem?_cons_succ, List.getElem?_cons_zero, Option.some.injEq] at hoi
      subst hoi
      refine ⟨rfl, Or.inl ⟨by rfl, ?_⟩⟩
      intro w hSw
      try dsimp only at hSw
      go_simp
      try with_reducible rfl
    clear hcl
    intro hcl
    try simp only [Act.put, List.setIfInBounds_toArray, List.set_cons_zero, List.set_cons_succ]
    refine wpAnyT_take (i := 3) (v := ?_) (some 164) (by kernel_rfl) (by kernel_rfl) (by kernel_rfl) (by kernel_rfl) hN (by decide) hcl (fun _ _ _ h => h) (fun oi hoi => ?hy304) hS0 ?rs304
    case hy304 =>
      simp only [List.getElem?_toArray, List.getElem?_cons_succ, List.getElem?_cons_zero, Option.some.injEq] at hoi
      subst hoi
      refine ⟨rfl, Or.inl ⟨by rfl, ?_⟩⟩
      intro w hSw
      try dsimp only at hSw
      go_simp
      try with_reducible rfl
    clear hcl
    intro hcl
    try simp only [Act.put, List.setIfInBounds_toArray, List.set_cons_zero, List.set_cons_succ]
    refine wpAnyT_take (i := 4) (v := ?_) (some 165) (by kernel_rfl) (by kernel_rfl) (by kernel_rfl) (by kernel_rfl) hN (by decide) hcl (fun _ _ _ h => h) (fun oi hoi => ?hy305) hS0 ?rs305
    case hy305 =>
      simp only [List.getElem?_toArray, List.getElem?_cons_succ, List.getElem?_cons_zero, Option.some.injEq] at hoi
      subst hoi
      refine ⟨rfl, Or.inl ⟨by rfl, ?_⟩⟩
      intro w hSw
      try dsimp only at hSw
      go_simp
      try with_reducible rfl
    clear hcl
    intro hcl
    try simp only [Act.put, List.setIfInBounds_toArray, List.set_cons_zero, List.set_cons_succ]
    refine wpAnyT_take (i := 5) (v := ?_) (some 166) (by kernel_rfl) (by kernel_rfl) (by kernel_rfl) (by kernel_rfl) hN (by decide) hcl (fun _ _ _ h => h) (fun oi hoi => ?hy306) hS0 ?rs306
    case hy306 =>
      simp only [List.getElem?_toArray, List.getElem?_cons_succ, List.getElem?_cons_zero, Option.some.injEq] at hoi
      subst hoi
      refine ⟨rfl, Or.inl ⟨by rfl, ?_⟩⟩
      intro w hSw
      try dsimp only at hSw
      go_simp
      try with_reducible rfl
    clear hcl
    intro hcl
    try simp only [Act.put, List.setIfInBounds_toArray, List.set_cons_zero, List.set_cons_succ]
    refine wpAnyT_take (i := 6) (v := ?_) (some 167) (by kernel_rfl) (by kernel_rfl) (by kernel_rfl) (by kernel_rfl) hN (by decide) hcl (fun _ _ _ h => h) (fun oi hoi => ?hy307) hS0 ?rs307
    case hy307 =>
      simp only [List.getElem?_toArray, List.getElem?_cons_succ, List.getElem?_cons_zero, Option.some.injEq] at hoi
      subst hoi
      refine ⟨rfl, Or.inl ⟨by rfl, ?_⟩⟩
      intro w hSw
      try dsimp only at hSw
      go_simp
      try with_reducible rfl
    clear hcl
    intro hcl
    try simp only [Act.put, List.setIfInBounds_toArray, List.set_cons_zero, List.set_cons_succ]
    refine wpAnyT_take (i := 7) (v := ?_) (some 168) (by kernel_rfl) (by kernel_rfl) (by kernel_rfl) (by kernel_rfl) hN (by decide) hcl (fun _ _ _ h => h) (fun oi hoi => ?hy308) hS0 ?rs308
    case hy308 =>
      simp only [List.getElem?_toArray, List.getElem?_cons_succ, List.getElem?_cons_zero, Option.some.injEq] at hoi
      subst hoi
      refine ⟨rfl, Or.inl ⟨by rfl, ?_⟩⟩
      intro w hSw
      try dsimp only at hSw
      go_simp
      try with_reducible rfl
    clear hcl
    intro hcl
    try simp only [Act.put, List.setIfInBounds_toArray, List.set_cons_zero, List.set_cons_succ]
    refine wpAnyT_take (i := 8) (v := ?_) (some 169) (by kernel_rfl) (by kernel_rfl) (by kernel_rfl) (by kernel_rfl) hN (by decide) hcl (fun _ _ _ h => h) (fun oi hoi => ?hy309) hS0 ?rs309
    case hy309 =>
      simp only [List.getElem?_toArray, List.getElem?_cons_succ, List.getElem?_cons_zero, Option.some.injEq] at hoi
      subst hoi
      refine ⟨rfl, Or.inl ⟨by rfl, ?_⟩⟩
      intro w hSw
      try dsimp only at hSw
      go_simp
      try with_reducible rfl
    clear hcl
    intro hcl
    try simp only [Act.put, List.setIfInBounds_toArray, List.set_cons_zero, List.set_cons_succ]
    refine wpAnyT_take (i := 9) (v := ?_) (some 170) (by kernel_rfl) (by kernel_rfl) (by kernel_rfl) (by kernel_rfl) hN (by decide) hcl (fun _ _ _ h => h) (fun oi hoi => ?hy310) hS0 ?rs310
    case hy310 =>
      simp only [List.getElem?_toArray, List.getElem?_cons_succ, List.getElem?_cons_zero, Option.some.injEq] at hoi
      subst hoi
      refine ⟨rfl, Or.inl ⟨by rfl, ?_⟩⟩
      intro w hSw
      try dsimp only at hSw
      go_simp
      try with_reducible rfl
    clear hcl
    intro hcl
    try simp only [Act.put, List.setIfInBounds_toArray, List.set_cons_zero, List.set_cons_succ]
    refine wpAnyT_take (i := 10) (v := ?_) (some 171) (by kernel_rfl) (by kernel_rfl) (by kernel_rfl) (by kernel_rfl) hN (by decide) hcl (fun _ _ _ h => h) (fun oi hoi => ?hy311) hS0 ?rs311
    case hy311 =>
      simp only [List.getElem?_toArray, List.getElem?_cons_succ, List.getElem?_cons_zero, Option.some.injEq] at hoi
      subst hoi
      refine ⟨rfl, Or.inl ⟨by rfl, ?_⟩⟩
      intro w hSw
      try dsimp only at hSw
      go_simp
      try with_reducible rfl
    clear hcl
    intro hcl
    try simp only [Act.put, List.setIfInBounds_toArray, List.set_cons_zero, List.set_cons_succ]
    refine wpAnyT_one (i := 11) (by kernel_rfl) (by kernel_rfl) hcl (fun oi hoi K' hK' => ?_)
    clear hcl
    simp only [List.getElem?_toArray, List.getElem?_cons_succ, List.getElem?_cons_zero, Option.some.injEq] at hoi
    subst hoi
    go_simp
    refine (unhide hK') _ _ (.inr ⟨(World.cell?_alloc_lt _ _ _ hxl2).trans s2, (World.cell?_alloc_lt _ _ _ hpl2).trans e2, (World.cell?_alloc_lt _ _ _ hpl2).trans e3⟩) (fun hcl => ?_)
    clear hK' K'
    refine wpAnyT_one (i := 12) (by kernel_rfl) (by kernel_rfl) hcl (fun oi hoi K' hK' => ?_)
    clear hcl
    simp only [List.getElem?_toArray, List.getElem?_cons_succ, List.getElem?_cons_zero, Option.some.injEq] at hoi
    subst hoi
    refine step_append_lies _ rfl (.tmp 165) (.tmp 172) 51 rfl W.heap.size 79 i0 (.agg #[.int .i64 0, .int .i64 0, .int .i64 0, .int .i64 0, .int .i64 0]) 5 40 Try.underlying51 hi hz0 hz1 hz2 rfl (by decide) _ _ _ rfl (((unhide HLR).alloc _).drew) ⟨w2.heap.size, 0, none⟩ 1 1 (Pk.cells ⟨3, (d : Int), 0, p.no, res⟩) rfl rfl (new_cells_drew _ _ 79 _ rfl) (pk_one _) (by omega) (by unfold maxLen; omega) (by omega) (by have := (unhide HX4).bl.size; simp; omega) _ rfl ?_
    intro g9' cap9 w5 hown hgrow hat hlt9
    have HST := hide (pushed_step (unhide HX4) ⟨3, (d : Int), 0, p.no, res⟩ hown hgrow)
    have y2 := ((unhide HST).1.frozen (p := ⟨xb, 2, none⟩) hxl2 (unhide HST).2.1).trans sz2
    have yc := ((unhide HST).1.cell (p := ⟨xb, 2, none⟩) hxl2 (unhide HST).2.1).trans s2
    have y3 := ((unhide HST).1.cell (p := ⟨pb, 2, none⟩) hpl2 hnb).trans e2
    have y4 := ((unhide HST).1.cell (p := ⟨pb, 3, none⟩) hpl2 hnb).trans e3
    have hS1 := And.intro yc (And.intro y3 y4)
    have hxl5 : xb < w5.heap.size := Nat.lt_of_lt_of_le hxl2 (unhide HST).1.size
    clear hown hgrow hat hlt9 hS0
    refine (unhide hK') _ _ (.inr hS1) (fun hcl => ?_)
    clear hK' K'
    try simp only [Act.put, List.setIfInBounds_toArray, List.set_cons_zero, List.set_cons_succ]
    refine wpAnyT_take (i := 13) (v := ?_) (some 174) (by kernel_rfl) (by kernel_rfl) (by kernel_rfl) (by kernel_rfl) hN (by decide) hcl (fun _ _ _ h => h) (fun oi hoi => ?hy312) hS1 ?rs312
    case hy312 =>
      simp only [List.getElem?_toArray, List.getElem?_cons_succ, List.getElem?_cons_zero, Option.some.injEq] at hoi
      subst hoi
      refine ⟨rfl, Or.inl ⟨by rfl, ?_⟩⟩
      intro w hSw
      try dsimp only at hSw
      go_simp
      try with_reducible rfl
    clear hcl
    intro hcl
    try simp only [Act.put, List.setIfInBounds_toArray, List.set_cons_zero, List.set_cons_succ]
    refine wpAnyT_take (i := 14) (v := ?_) (some 175) (by kernel_rfl) (by kernel_rfl) (by kernel_rfl) (by kernel_rfl) hN (by decide) hcl (fun _ _ _ h => h) (fun oi hoi => ?hy313) hS1 ?rs313
    case hy313 =>
      simp only [List.getElem?_toArray, List.getElem?_cons_succ, List.getElem?_cons_zero, Option.some.injEq] at hoi
      subst hoi
      refine ⟨rfl, Or.inl ⟨by rfl, ?_⟩⟩
      intro w hSw
      try dsimp only at hSw
      go_simp
      try with_reducible rfl
    clear hcl
    intro hcl
    try simp only [Act.put, List.setIfInBounds_toArray, List.set_cons_zero, List.set_cons_succ]
    refine wpAnyT_one (i := 15) (by kernel_rfl) (by kernel_rfl) hcl (fun oi hoi K' hK' => ?_)
    clear hcl
    simp only [List.getElem?_toArray, List.getElem?_cons_succ, List.getElem?_cons_zero, Option.some.injEq] at hoi
    subst hoi
    go_simp
    refine (unhide hK') _ _ (.inl rfl) (fun hcl => ?_)
    refine wpAnyT_done (by kernel_rfl) ?_ _
    have HX6 := hide (unhide HST).2.2
    clear hK' K' hcl hN hS1 y2 yc y3 y4 HST
    generalize w5.setCell ⟨xb, 2, none⟩ _ = w6 at *
    have t5 := (unhide HX6).c5
    have tz5 := (unhide HX6).z 5
    have hxl6 := (unhide HX6).lt
    clear hxl5
    go_wp2_with fail
    have hX7 := (unhide HX6).setBad
    first | go_end0 | refine bodyPost_ret (results_none rfl _ _ _) rfl ?_
    rw [unhide HRES]
    simp only [hkv, hov] at hX7
    exact ⟨rfl, _, _, hX7⟩
end
end Go.Proofs.Ytdommbaljchofaa
