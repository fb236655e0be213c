/-
  The statements' world: a report comes.
-/
import Derived.Test.YtdommbaljchofaaXI
namespace Go.Proofs.Ytdommbaljchofaa
open Go.RowKit Go.Deep
set_option linter.unusedVariables false
set_option linter.unusedSimpArgs false
theorem report_ok {w : World} {qb tb n k : Nat} {rd least time tm : Int} {told : Nat → Bool} (h : MAt w qb tb n rd told true least time) (hn : n ≤ 1000000) (hk : k < n) (ht : IsTime tm) (hf : told k = false) :
    Calls Try.prog 29 #[.pointer (some ⟨qb, 0, none⟩), .int .i64 k, .int .i64 rd, .int .i64 tm] w fun e w' =>
      ∃ b : Bool, e = .returned (.tuple #[.bool b, .int .i64 0]) ∧ MAt w' qb tb n rd (toldUp told k) (!allTold n (toldUp told k)) (min least tm) (if allTold n (toldUp told k) = true then max time (min least tm) else time) ∧ Only [qb, tb] w w' := by
  cases hb : allTold n (toldUp told k) with
  | true =>
    refine (report_done h hn hk ht hf hb rfl rfl).mono ?_
    rintro e w' ⟨rfl, h1, h2⟩
    exact ⟨true, rfl, by simpa using h1, h2⟩
  | false =>
    refine (report_more h hn hk ht hf hb rfl).mono ?_
    rintro e w' ⟨rfl, h1, h2⟩
    exact ⟨false, rfl, by simpa using h1, h2⟩
section
variable {W w : World} {xb : Nat} {x : XS}
set_option maxRecDepth 100000 in
set_option maxHeartbeats 8000000 in
theorem comes_report {which : Int} {i d : Nat} {p : Pk} (h : XAt W w xb x) (hil : i < x.l.length) (hp : x.l[i]? = some p) (hll : x.l.length ≤ 100000) (ei : (wrap64 (which.tmod (x.l.length : Int) + (x.l.length : Int))).tmod (x.l.length : Int) = (i : Int)) (hkd : p.kind = 3) (hfr : p.fr = (d : Int)) (hno : p.no = x.rd) (hrun : x.run = true) (hn : x.n ≤ 1000000) (hd : d < x.n) (ht : IsTime p.tm) (hf : x.told d = false) {told' : Nat → Bool} {run' : Bool} {least' time' : Int} (htl : toldUp x.told d = told') (hrn : (!allTold x.n (toldUp x.told d)) = run') (hle : min x.least p.tm = least') (hti : (if allTold x.n (toldUp x.told d) = true then max x.time (min x.least p.tm) else x.time) = time') :
    Calls Try.prog 23 #[.pointer (some ⟨xb, 0, none⟩), .int .i64 which] w fun e w' => e = .returned (.tuple #[]) ∧ ∃ lv' lc', XAt W w' xb { x with lv := lv', lc := lc', l := x.l.eraseIdx i, told := told', run := run', least := least', time := time' } := by
  obtain ⟨i0, hi, hz0, hz1, hz2⟩ := info_parts Try.info79
  have c2 := h.c2
  have hlt := h.lt
  obtain ⟨g, hlv, hg, hcap, ⟨q0, q1, q2, q3, q4⟩⟩ := h.atL hp
  rw [hlv] at c2
  have HCL : Hid (∀ j u, (x.l.flatMap Pk.cells)[j]? = some u → w.cell? ⟨g, j, none⟩ = some u) := by
    obtain ⟨g', hg', _, _, hc, _⟩ := own_at h.lr (by omega)
    rw [hlv] at hg'
    injection hg' with hg'
    injection hg' with hg'
    subst hg'
    exact hc
  have HKD := hide hkd
  have HFR := hide hfr
  have HNO := hide hno
  have HRUN := hide hrun
  have HTM := hide ht
  have HFL := hide hf
  have HEQ : Hid (toldUp x.told d = told' ∧ (!allTold x.n (toldUp x.told d)) = run' ∧ min x.least p.tm = least' ∧ (if allTold x.n (toldUp x.told d) = true then max x.time (min x.least p.tm) else x.time) = time') := ⟨htl, hrn, hle, hti⟩
  clear hkd hfr hno hrun ht hf htl hrn hle hti
  obtain ⟨nl, hnl⟩ : ∃ nl, x.l.length = nl := ⟨_, rfl⟩
  obtain ⟨T, hT⟩ : ∃ T, (x.l.drop 0).take i = T := ⟨_, rfl⟩
  obtain ⟨D, hD⟩ : ∃ D, (x.l.drop (i + 1)).take x.l.length = D := ⟨_, rfl⟩
  have eT : T.length = i := by rw [← hT]; simp; omega
  have eD : D.length = nl - (i + 1) := by rw [← hD]; simp; omega
  have HTD : Hid (x.l.eraseIdx i = T ++ D) := by
    show x.l.eraseIdx i = T ++ D
    rw [← hT, ← hD, List.eraseIdx_eq_take_drop_succ, List.drop_zero, List.take_of_length_le (l := x.l.drop (i + 1)) (by simp)]
  have HT := hide hT
  have HD := hide hD
  have HET := hide eT
  have HED := hide eD
  have H := hide h
  have HP := hide hp
  have HLV := hide hlv
  rw [hnl] at c2 ei hil hcap hll
  have HNL := hide hnl
  have g1 : decide (nl ≤ i) = false := by simp; omega
  have g2 : decide (i < nl) = true := by simp; omega
  have g3 : (nl == 0) = false := beq_false_of_ne (by omega)
  have g4 : ((nl : Int) == 0) = false := beq_false_of_ne (by omega)
  have g5 : ¬ (nl = 0) := by omega
  clear h hp hlv hnl hT hD eT eD 
  go_enter Try.func23, Try.ntmps23
  go_upto_region 5 with fail
  obtain ⟨w1, hw1⟩ : ∃ w1, w1 = (w.alloc (.cells #[.int .i64 p.kind, .int .i64 p.fr, .int .i64 p.dst, .int .i64 p.no, .int .i64 p.tm] 79)) := ⟨_, rfl⟩
  rw [← hw1]
  have hO1 : Only [] w w1 := by rw [hw1]; exact (Only.refl _ _).alloc _
  have hkb : w.heap.size < w1.heap.size := by rw [hw1]; simp
  have HPK : Hid (w1.rowIs w.heap.size 79 5 (pkF p)) := by
    show w1.rowIs w.heap.size 79 5 (pkF p)
    rw [hw1]
    exact World.rowIs_alloc w #[.int .i64 p.kind, .int .i64 p.fr, .int .i64 p.dst, .int .i64 p.no, .int .i64 p.tm] 79 (pkF p) (by
      intro i hi
      simp at hi
      rcases (show i = 0 ∨ i = 1 ∨ i = 2 ∨ i = 3 ∨ i = 4 by omega) with rfl | rfl | rfl | rfl | rfl <;> rfl)
  have HX1 := hide ((unhide H).quiet hO1)
  have HCL1 : Hid (∀ j u, (x.l.flatMap Pk.cells)[j]? = some u → w1.cell? ⟨g, j, none⟩ = some u) := fun j u hj => (hO1.cell (p := ⟨g, j, none⟩) hg (by simp)).trans ((unhide HCL) j u hj)
  have c2' : w1.cell? ⟨xb, 2, none⟩ = some (.slice (some ⟨g, 0, none⟩) nl x.lc) := (hO1.cell (p := ⟨xb, 2, none⟩) hlt (by simp)).trans c2
  have hlt1 : xb < w1.heap.size := Nat.lt_of_lt_of_le hlt hO1.size
  have hg1 : g < w1.heap.size := Nat.lt_of_lt_of_le hg hO1.size
  have hz2x := (unhide HX1).z 2
  clear hw1 hO1 q0 q1 q2 q3 q4 c2 hg HCL H
  generalize w.heap.size = pb at *
  go_upto_region 6 with (at_builtin; refine wpList_append_own_at _ rfl (.tmp 34) (.tmp 40) 51 rfl w1.heap.size 79 i0 (.agg #[.int .i64 0, .int .i64 0, .int .i64 0, .int .i64 0, .int .i64 0]) 5 40 Try.underlying51 hi hz0 hz1 hz2 rfl (by decide) _ _ _ rfl (World.ownsRow_nil _ _ _ _) ⟨g, 0, none⟩ T.length x.lc (T.flatMap Pk.cells) (by rw [unhide HET]; rfl) (pk_len _) (by have h' := pk_news (unhide HT) (unhide HCL1) (Nat.zero_le _); simpa using h') (pk_ones _) (by have := unhide HET; unfold maxLen; omega) (by have := unhide HET; omega) (Nat.le_refl _) ?_)
  intro v1 w2 hown1 hgrow1 _ _
  obtain ⟨N1, d1', rfl⟩ := owns_form hown1
  have hO2 : Only [] w1 w2 := (Only.refl [] w1).grown_new (v := .slice none 0 0) hgrow1 (by simp [Value.ownBlock])
  have HN1 : Hid (w2.ownsRow w1.heap.size 79 5 (.slice N1 i d1') i (T.flatMap Pk.cells)) := by
    have h' := hown1
    simp only [Nat.zero_add, List.nil_append, unhide HET] at h'
    exact h'
  have HCL2 : Hid (∀ j u, (x.l.flatMap Pk.cells)[j]? = some u → w2.cell? ⟨g, j, none⟩ = some u) := fun j u hj => (hO2.cell (p := ⟨g, j, none⟩) hg1 (by simp)).trans ((unhide HCL1) j u hj)
  have c22 : w2.cell? ⟨xb, 2, none⟩ = some (.slice (some ⟨g, 0, none⟩) nl x.lc) := (hO2.cell (p := ⟨xb, 2, none⟩) hlt1 (by simp)).trans c2'
  have z22 : w2.frozen? ⟨xb, 2, none⟩ = false := (hO2.frozen (p := ⟨xb, 2, none⟩) hlt1 (by simp)).trans hz2x
  have hlt2 : xb < w2.heap.size := Nat.lt_of_lt_of_le hlt1 hO2.size
  have hs2 := hO2.size
  have HO2 := hide hO2
  clear hO2 hown1 hgrow1 c2' hz2x HCL1
  try rw [unhide HET]
  try simp only [Nat.zero_add]
  go_upto_region 6 with fail
  go_cut [] (fun wx => ∃ lv' lc', XAt W wx xb { x with lv := lv', lc := lc', l := x.l.eraseIdx i } ∧ wx.rowIs pb 79 5 (pkF p) ∧ pb < wx.heap.size ∧ pb ∉ ob lv' (x.l.eraseIdx i).length lc')
  case first =>
    by_cases hci : x.lc = i + 1
    · have hD0 : D = [] := List.eq_nil_of_length_eq_zero (by have := unhide HED; omega)
      have HD0 := hide hD0
      have HCI : Hid (x.lc - (i + 1) = 0) := by show x.lc - (i + 1) = 0; omega
      clear hD0
      go_wp2_with (at_builtin; refine wpList_append_own_at _ rfl (.tmp 43) (.tmp 50) 51 rfl w1.heap.size 79 i0 (.agg #[.int .i64 0, .int .i64 0, .int .i64 0, .int .i64 0, .int .i64 0]) 5 40 Try.underlying51 hi hz0 hz1 hz2 rfl (by decide) _ _ _ rfl (unhide HN1) ⟨g, 0, none⟩ D.length 0 (D.flatMap Pk.cells) (by rw [unhide HED]; rfl) (pk_len _) (by rw [unhide HD0]; intro j u hj; simp at hj) (pk_ones _) (by have := unhide HED; unfold maxLen; omega) (by have := unhide HED; omega) (by omega) ?_)
      intro v3 w3 hown3 hgrow3 _ _
      obtain ⟨N3, d3', rfl⟩ := owns_form hown3
      have hl' : i + D.length = (x.l.eraseIdx i).length := by rw [unhide HTD, List.length_append, unhide HET]
      have hO3 : Only [] w1 w3 := (unhide HO2).grown_new hgrow3 (owned_ge (unhide HN1))
      have HO3 := hide hO3
      have hown3' : w3.ownsRow w1.heap.size 79 5 (.slice N3 (x.l.eraseIdx i).length d3') (x.l.eraseIdx i).length ((x.l.eraseIdx i).flatMap Pk.cells) := by
        rw [← hl', unhide HTD, List.flatMap_append]
        exact hown3
      have HW3 := hide hown3'
      have hX3 := (unhide HX1).packets (l' := x.l.eraseIdx i) (lv' := N3) (lc' := d3') (owns_weaken (unhide HW3) (unhide HX1).bl.size) (hO3.mono (by simp))
      have HX3 := hide hX3
      have q2 : w3.cell? ⟨xb, 2, none⟩ = some (.slice (some ⟨g, 0, none⟩) nl x.lc) := ((unhide HO3).cell (p := ⟨xb, 2, none⟩) hlt1 (by simp)).trans (((unhide HO2).cell (p := ⟨xb, 2, none⟩) hlt1 (by simp)).symm.trans c22)
      have y2 : w3.frozen? ⟨xb, 2, none⟩ = false := ((unhide HO3).frozen (p := ⟨xb, 2, none⟩) hlt1 (by simp)).trans (((unhide HO2).frozen (p := ⟨xb, 2, none⟩) hlt1 (by simp)).symm.trans z22)
      have hlt3 : xb < w3.heap.size := Nat.lt_of_lt_of_le hlt1 hO3.size
      have hpx : pb ≠ xb := fun e => by omega
      have HPK3 : Hid ((w3.setCell ⟨xb, 2, none⟩ (.slice N3 (x.l.eraseIdx i).length d3')).rowIs pb 79 5 (pkF p)) := ((unhide HO3).row (unhide HPK) (by simp)).setOther hpx _
      have HNB : Hid (pb ∉ ob N3 (x.l.eraseIdx i).length d3') := fun hm => by
        have := owned_ge (unhide HW3) pb (by simpa [ob] using hm)
        omega
      have HSZ : Hid (pb < (w3.setCell ⟨xb, 2, none⟩ (.slice N3 (x.l.eraseIdx i).length d3')).heap.size) := by
        show pb < _
        rw [World.size_setCell]
        exact Nat.lt_of_lt_of_le hkb (unhide HO3).size
      clear hown3 hgrow3 hO3 hown3' hX3
      rw [hl']
      go_wp2_with fail
      go_meet
      exact ⟨N3, d3', unhide HX3, unhide HPK3, unhide HSZ, unhide HNB⟩
    · have hci' : (x.lc = i + 1) = False := by simp [hci]
      go_wp2_with (at_builtin; refine wpList_append_own_at _ rfl (.tmp 43) (.tmp 50) 51 rfl w1.heap.size 79 i0 (.agg #[.int .i64 0, .int .i64 0, .int .i64 0, .int .i64 0, .int .i64 0]) 5 40 Try.underlying51 hi hz0 hz1 hz2 rfl (by decide) _ _ _ rfl (unhide HN1) ⟨g, (i + 1) * 5, none⟩ D.length (x.lc - (i + 1)) (D.flatMap Pk.cells) (by rw [unhide HED]; rfl) (pk_len _) (pk_news (unhide HD) (unhide HCL2) (by have := unhide HNL; omega)) (pk_ones _) (by have := unhide HED; unfold maxLen; omega) (by have := unhide HED; omega) (by omega) ?_)
      intro v3 w3 hown3 hgrow3 _ _
      obtain ⟨N3, d3', rfl⟩ := owns_form hown3
      have hl' : i + D.length = (x.l.eraseIdx i).length := by rw [unhide HTD, List.length_append, unhide HET]
      have hO3 : Only [] w1 w3 := (unhide HO2).grown_new hgrow3 (owned_ge (unhide HN1))
      have HO3 := hide hO3
      have hown3' : w3.ownsRow w1.heap.size 79 5 (.slice N3 (x.l.eraseIdx i).length d3') (x.l.eraseIdx i).length ((x.l.eraseIdx i).flatMap Pk.cells) := by
        rw [← hl', unhide HTD, List.flatMap_append]
        exact hown3
      have HW3 := hide hown3'
      have hX3 := (unhide HX1).packets (l' := x.l.eraseIdx i) (lv' := N3) (lc' := d3') (owns_weaken (unhide HW3) (unhide HX1).bl.size) (hO3.mono (by simp))
      have HX3 := hide hX3
      have q2 : w3.cell? ⟨xb, 2, none⟩ = some (.slice (some ⟨g, 0, none⟩) nl x.lc) := ((unhide HO3).cell (p := ⟨xb, 2, none⟩) hlt1 (by simp)).trans (((unhide HO2).cell (p := ⟨xb, 2, none⟩) hlt1 (by simp)).symm.trans c22)
      have y2 : w3.frozen? ⟨xb, 2, none⟩ = false := ((unhide HO3).frozen (p := ⟨xb, 2, none⟩) hlt1 (by simp)).trans (((unhide HO2).frozen (p := ⟨xb, 2, none⟩) hlt1 (by simp)).symm.trans z22)
      have hlt3 : xb < w3.heap.size := Nat.lt_of_lt_of_le hlt1 hO3.size
      have hpx : pb ≠ xb := fun e => by omega
      have HPK3 : Hid ((w3.setCell ⟨xb, 2, none⟩ (.slice N3 (x.l.eraseIdx i).length d3')).rowIs pb 79 5 (pkF p)) := ((unhide HO3).row (unhide HPK) (by simp)).setOther hpx _
      have HNB : Hid (pb ∉ ob N3 (x.l.eraseIdx i).length d3') := fun hm => by
        have := owned_ge (unhide HW3) pb (by simpa [ob] using hm)
        omega
      have HSZ : Hid (pb < (w3.setCell ⟨xb, 2, none⟩ (.slice N3 (x.l.eraseIdx i).length d3')).heap.size) := by
        show pb < _
        rw [World.size_setCell]
        exact Nat.lt_of_lt_of_le hkb (unhide HO3).size
      clear hown3 hgrow3 hO3 hown3' hX3
      rw [hl']
      go_wp2_with fail
      go_meet
      exact ⟨N3, d3', unhide HX3, unhide HPK3, unhide HSZ, unhide HNB⟩
  case rest =>
    obtain ⟨lv', lc', hX, hPR, hpl, hnb⟩ := hcut
    have HX := hide hX
    have q0 : wc.cell? ⟨pb, 0, none⟩ = some (.int .i64 3) := (hPR.cell (show 0 < 5 by omega)).trans (by show some (Value.int .i64 p.kind) = _; rw [unhide HKD])
    have q1 : wc.cell? ⟨pb, 1, none⟩ = some (.int .i64 (d : Int)) := (hPR.cell (show 1 < 5 by omega)).trans (by show some (Value.int .i64 p.fr) = _; rw [unhide HFR])
    have q3 : wc.cell? ⟨pb, 3, none⟩ = some (.int .i64 x.rd) := (hPR.cell (show 3 < 5 by omega)).trans (by show some (Value.int .i64 p.no) = _; rw [unhide HNO])
    have q4 : wc.cell? ⟨pb, 4, none⟩ = some (.int .i64 p.tm) := hPR.cell (show 4 < 5 by omega)
    have r3 := hX.c3
    have r5 := hX.c5
    have rz5 := hX.z 5
    have hxl := hX.lt
    simp only at r3
    have hma := hX.ma
    simp only at hma
    rw [unhide HRUN] at hma
    have HC : Hid (Calls Try.prog 29 #[.pointer (some ⟨x.qb, 0, none⟩), .int .i64 d, .int .i64 x.rd, .int .i64 p.tm] wc.drew fun e w' => ∃ b : Bool, e = .returned (.tuple #[.bool b, .int .i64 0]) ∧ MAt w' x.qb x.tb x.n x.rd told' run' least' time' ∧ Only [x.qb, x.tb] wc.drew w') := by
      have h' := report_ok (hma.only0 ((Only.refl _ _).drew)) hn hd (unhide HTM) (unhide HFL)
      obtain ⟨e1, e2, e3, e4⟩ := unhide HEQ
      rw [e2, e4, e1, e3] at h'
      exact h'
    have HNX : Hid (xb ∉ [x.qb, x.tb] ∧ pb ∉ [x.qb, x.tb]) := by
      refine ⟨?_, ?_⟩
      · simp only [List.mem_cons, List.not_mem_nil, or_false, not_or]
        exact ⟨row_ne hX.hd hma.hd (by decide), row_ne hX.hd hma.tl (by decide)⟩
      · simp only [List.mem_cons, List.not_mem_nil, or_false, not_or]
        exact ⟨row_ne hPR hma.hd (by decide), row_ne hPR hma.tl (by decide)⟩
    clear hma hX hPR
    go_wp2_with fail
    go_region_held3 (fun w' => w'.cell? ⟨xb, 3, none⟩ = some (.pointer (some ⟨x.qb, 0, none⟩)) ∧ w'.cell? ⟨pb, 1, none⟩ = some (.int .i64 (d : Int)) ∧ w'.cell? ⟨pb, 3, none⟩ = some (.int .i64 x.rd) ∧ w'.cell? ⟨pb, 4, none⟩ = some (.int .i64 p.tm)) (first | exact ⟨r3, q1, q3, q4⟩ | exact unhide HKP | go_keep) (first | (go_at_call 29; (with_reducible refine Calls.mono (unhide HC) ?_); rintro e w2 ⟨bv, rfl, hM2, hO2⟩; have HKP := hide (And.intro ((hO2.cell (p := ⟨xb, 3, none⟩) hxl (unhide HNX).1).trans r3) (And.intro ((hO2.cell (p := ⟨pb, 1, none⟩) hpl (unhide HNX).2).trans q1) (And.intro ((hO2.cell (p := ⟨pb, 3, none⟩) hpl (unhide HNX).2).trans q3) ((hO2.cell (p := ⟨pb, 4, none⟩) hpl (unhide HNX).2).trans q4)))); have y5 := (hO2.frozen (p := ⟨xb, 5, none⟩) hxl (unhide HNX).1).trans rz5; have yc5 := (hO2.cell (p := ⟨xb, 5, none⟩) hxl (unhide HNX).1).trans r5; have hxl2 : xb < w2.heap.size := Nat.lt_of_lt_of_le hxl hO2.size; have HM2 := hide hM2; have HO2 : Hid (Only [x.qb, x.tb] wc w2) := hO2.undrew2; clear hM2 hO2))
    clear r3 q0 q1 q3 q4 r5 rz5
    go_wp2_with fail
    have hX4 := ((unhide HX).master (unhide HM2) (unhide HO2) (unhide HX).mb2).setBad
    first | go_end0 | refine bodyPost_ret (results_none rfl _ _ _) rfl ?_
    exact ⟨rfl, lv', lc', hX4⟩
end
end Go.Proofs.Ytdommbaljchofaa
