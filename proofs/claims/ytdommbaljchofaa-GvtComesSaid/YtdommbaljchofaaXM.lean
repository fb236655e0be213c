/-
  The statements' world: a message comes.
-/
import Derived.Test.YtdommbaljchofaaXI
namespace Go.Proofs.Ytdommbaljchofaa
open Go.RowKit Go.Deep
set_option linter.unusedVariables false
set_option linter.unusedSimpArgs false
section
variable {W w : World} {xb : Nat} {x : XS}
set_option maxRecDepth 100000 in
set_option maxHeartbeats 16000000 in
theorem comes_msg {which : Int} {i d : Nat} {p : Pk} {k : WK} {o : OK} (h : XAt W w xb x) (hil : i < x.l.length) (hp : x.l[i]? = some p) (hll : x.l.length ≤ 100000) (ei : (wrap64 (which.tmod (x.l.length : Int) + (x.l.length : Int))).tmod (x.l.length : Int) = (i : Int)) (hkd : p.kind = 0) (hdst : p.dst = (d : Int)) (hk : x.K[d]? = some k) (ho : x.O[d]? = some o) (hoL : o.L.length ≤ 1000000) :
    Calls Try.prog 23 #[.pointer (some ⟨xb, 0, none⟩), .int .i64 which] w fun e w' => e = .returned (.tuple #[]) ∧ ∃ lv' lc' A' c', XAt W w' xb { x with lv := lv', lc := lc', l := x.l.eraseIdx i ++ [⟨1, (d : Int), p.fr, p.no, k.s.rd⟩], O := x.O.set d ⟨A', c', o.L ++ [p.tm]⟩ } := by
  obtain ⟨i3, hi3, hy0, hy1, hy2⟩ := info_parts Try.info3'
  obtain ⟨i0, hi, hz0, hz1, hz2⟩ := info_parts Try.info79
  have c2 := h.c2
  have hlt := h.lt
  obtain ⟨g, hlv, hg, hcap, ⟨q0, q1, q2, q3, q4⟩⟩ := h.atL hp
  rw [hlv] at c2
  have HCL : Hid (∀ j u, (x.l.flatMap Pk.cells)[j]? = some u → w.cell? ⟨g, j, none⟩ = some u) := by
    obtain ⟨g', hg', _, _, hc, _⟩ := own_at h.lr (by omega)
    rw [hlv] at hg'
    injection hg' with hg'
    injection hg' with hg'
    subst hg'
    exact hc
  have HKD := hide hkd
  have HDS := hide hdst
  have HKK := hide hk
  have HOO := hide ho
  clear hkd hdst hk ho
  obtain ⟨nl, hnl⟩ : ∃ nl, x.l.length = nl := ⟨_, rfl⟩
  obtain ⟨T, hT⟩ : ∃ T, (x.l.drop 0).take i = T := ⟨_, rfl⟩
  obtain ⟨D, hD⟩ : ∃ D, (x.l.drop (i + 1)).take x.l.length = D := ⟨_, rfl⟩
  have eT : T.length = i := by rw [← hT]; simp; omega
  have eD : D.length = nl - (i + 1) := by rw [← hD]; simp; omega
  have HTD : Hid (x.l.eraseIdx i = T ++ D) := by
    show x.l.eraseIdx i = T ++ D
    rw [← hT, ← hD, List.eraseIdx_eq_take_drop_succ, List.drop_zero, List.take_of_length_le (l := x.l.drop (i + 1)) (by simp)]
  have HT := hide hT
  have HD := hide hD
  have HET := hide eT
  have HED := hide eD
  have H := hide h
  have HP := hide hp
  have HLV := hide hlv
  rw [hnl] at c2 ei hil hcap hll
  have HNL := hide hnl
  have g1 : decide (nl ≤ i) = false := by simp; omega
  have g2 : decide (i < nl) = true := by simp; omega
  have g3 : (nl == 0) = false := beq_false_of_ne (by omega)
  have g4 : ((nl : Int) == 0) = false := beq_false_of_ne (by omega)
  have g5 : ¬ (nl = 0) := by omega
  clear h hp hlv hnl hT hD eT eD 
  go_enter Try.func23, Try.ntmps23
  go_upto_region 5 with fail
  obtain ⟨w1, hw1⟩ : ∃ w1, w1 = (w.alloc (.cells #[.int .i64 p.kind, .int .i64 p.fr, .int .i64 p.dst, .int .i64 p.no, .int .i64 p.tm] 79)) := ⟨_, rfl⟩
  rw [← hw1]
  have hO1 : Only [] w w1 := by rw [hw1]; exact (Only.refl _ _).alloc _
  have hkb : w.heap.size < w1.heap.size := by rw [hw1]; simp
  have HPK : Hid (w1.rowIs w.heap.size 79 5 (pkF p)) := by
    show w1.rowIs w.heap.size 79 5 (pkF p)
    rw [hw1]
    exact World.rowIs_alloc w #[.int .i64 p.kind, .int .i64 p.fr, .int .i64 p.dst, .int .i64 p.no, .int .i64 p.tm] 79 (pkF p) (by
      intro i hi
      simp at hi
      rcases (show i = 0 ∨ i = 1 ∨ i = 2 ∨ i = 3 ∨ i = 4 by omega) with rfl | rfl | rfl | rfl | rfl <;> rfl)
  have HX1 := hide ((unhide H).quiet hO1)
  have HCL1 : Hid (∀ j u, (x.l.flatMap Pk.cells)[j]? = some u → w1.cell? ⟨g, j, none⟩ = some u) := fun j u hj => (hO1.cell (p := ⟨g, j, none⟩) hg (by simp)).trans ((unhide HCL) j u hj)
  have c2' : w1.cell? ⟨xb, 2, none⟩ = some (.slice (some ⟨g, 0, none⟩) nl x.lc) := (hO1.cell (p := ⟨xb, 2, none⟩) hlt (by simp)).trans c2
  have hlt1 : xb < w1.heap.size := Nat.lt_of_lt_of_le hlt hO1.size
  have hg1 : g < w1.heap.size := Nat.lt_of_lt_of_le hg hO1.size
  have hz2x := (unhide HX1).z 2
  clear hw1 hO1 q0 q1 q2 q3 q4 c2 hg HCL H
  generalize w.heap.size = pb at *
  go_upto_region 6 with (at_builtin; refine wpList_append_own_at _ rfl (.tmp 34) (.tmp 40) 51 rfl w1.heap.size 79 i0 (.agg #[.int .i64 0, .int .i64 0, .int .i64 0, .int .i64 0, .int .i64 0]) 5 40 Try.underlying51 hi hz0 hz1 hz2 rfl (by decide) _ _ _ rfl (World.ownsRow_nil _ _ _ _) ⟨g, 0, none⟩ T.length x.lc (T.flatMap Pk.cells) (by rw [unhide HET]; rfl) (pk_len _) (by have h' := pk_news (unhide HT) (unhide HCL1) (Nat.zero_le _); simpa using h') (pk_ones _) (by have := unhide HET; unfold maxLen; omega) (by have := unhide HET; omega) (Nat.le_refl _) ?_)
  intro v1 w2 hown1 hgrow1 _ _
  obtain ⟨N1, d1', rfl⟩ := owns_form hown1
  have hO2 : Only [] w1 w2 := (Only.refl [] w1).grown_new (v := .slice none 0 0) hgrow1 (by simp [Value.ownBlock])
  have HN1 : Hid (w2.ownsRow w1.heap.size 79 5 (.slice N1 i d1') i (T.flatMap Pk.cells)) := by
    have h' := hown1
    simp only [Nat.zero_add, List.nil_append, unhide HET] at h'
    exact h'
  have HCL2 : Hid (∀ j u, (x.l.flatMap Pk.cells)[j]? = some u → w2.cell? ⟨g, j, none⟩ = some u) := fun j u hj => (hO2.cell (p := ⟨g, j, none⟩) hg1 (by simp)).trans ((unhide HCL1) j u hj)
  have c22 : w2.cell? ⟨xb, 2, none⟩ = some (.slice (some ⟨g, 0, none⟩) nl x.lc) := (hO2.cell (p := ⟨xb, 2, none⟩) hlt1 (by simp)).trans c2'
  have z22 : w2.frozen? ⟨xb, 2, none⟩ = false := (hO2.frozen (p := ⟨xb, 2, none⟩) hlt1 (by simp)).trans hz2x
  have hlt2 : xb < w2.heap.size := Nat.lt_of_lt_of_le hlt1 hO2.size
  have hs2 := hO2.size
  have HO2 := hide hO2
  clear hO2 hown1 hgrow1 c2' hz2x HCL1
  try rw [unhide HET]
  try simp only [Nat.zero_add]
  go_upto_region 6 with fail
  go_cut [] (fun wx => ∃ lv' lc', XAt W wx xb { x with lv := lv', lc := lc', l := x.l.eraseIdx i } ∧ wx.rowIs pb 79 5 (pkF p) ∧ pb < wx.heap.size ∧ pb ∉ ob lv' (x.l.eraseIdx i).length lc')
  case first =>
    by_cases hci : x.lc = i + 1
    · have hD0 : D = [] := List.eq_nil_of_length_eq_zero (by have := unhide HED; omega)
      have HD0 := hide hD0
      have HCI : Hid (x.lc - (i + 1) = 0) := by show x.lc - (i + 1) = 0; omega
      clear hD0
      go_wp2_with (at_builtin; refine wpList_append_own_at _ rfl (.tmp 43) (.tmp 50) 51 rfl w1.heap.size 79 i0 (.agg #[.int .i64 0, .int .i64 0, .int .i64 0, .int .i64 0, .int .i64 0]) 5 40 Try.underlying51 hi hz0 hz1 hz2 rfl (by decide) _ _ _ rfl (unhide HN1) ⟨g, 0, none⟩ D.length 0 (D.flatMap Pk.cells) (by rw [unhide HED]; rfl) (pk_len _) (by rw [unhide HD0]; intro j u hj; simp at hj) (pk_ones _) (by have := unhide HED; unfold maxLen; omega) (by have := unhide HED; omega) (by omega) ?_)
      intro v3 w3 hown3 hgrow3 _ _
      obtain ⟨N3, d3', rfl⟩ := owns_form hown3
      have hl' : i + D.length = (x.l.eraseIdx i).length := by rw [unhide HTD, List.length_append, unhide HET]
      have hO3 : Only [] w1 w3 := (unhide HO2).grown_new hgrow3 (owned_ge (unhide HN1))
      have HO3 := hide hO3
      have hown3' : w3.ownsRow w1.heap.size 79 5 (.slice N3 (x.l.eraseIdx i).length d3') (x.l.eraseIdx i).length ((x.l.eraseIdx i).flatMap Pk.cells) := by
        rw [← hl', unhide HTD, List.flatMap_append]
        exact hown3
      have HW3 := hide hown3'
      have hX3 := (unhide HX1).packets (l' := x.l.eraseIdx i) (lv' := N3) (lc' := d3') (owns_weaken (unhide HW3) (unhide HX1).bl.size) (hO3.mono (by simp))
      have HX3 := hide hX3
      have q2 : w3.cell? ⟨xb, 2, none⟩ = some (.slice (some ⟨g, 0, none⟩) nl x.lc) := ((unhide HO3).cell (p := ⟨xb, 2, none⟩) hlt1 (by simp)).trans (((unhide HO2).cell (p := ⟨xb, 2, none⟩) hlt1 (by simp)).symm.trans c22)
      have y2 : w3.frozen? ⟨xb, 2, none⟩ = false := ((unhide HO3).frozen (p := ⟨xb, 2, none⟩) hlt1 (by simp)).trans (((unhide HO2).frozen (p := ⟨xb, 2, none⟩) hlt1 (by simp)).symm.trans z22)
      have hlt3 : xb < w3.heap.size := Nat.lt_of_lt_of_le hlt1 hO3.size
      have hpx : pb ≠ xb := fun e => by omega
      have HPK3 : Hid ((w3.setCell ⟨xb, 2, none⟩ (.slice N3 (x.l.eraseIdx i).length d3')).rowIs pb 79 5 (pkF p)) := ((unhide HO3).row (unhide HPK) (by simp)).setOther hpx _
      have HNB : Hid (pb ∉ ob N3 (x.l.eraseIdx i).length d3') := fun hm => by
        have := owned_ge (unhide HW3) pb (by simpa [ob] using hm)
        omega
      have HSZ : Hid (pb < (w3.setCell ⟨xb, 2, none⟩ (.slice N3 (x.l.eraseIdx i).length d3')).heap.size) := by
        show pb < _
        rw [World.size_setCell]
        exact Nat.lt_of_lt_of_le hkb (unhide HO3).size
      clear hown3 hgrow3 hO3 hown3' hX3
      rw [hl']
      go_wp2_with fail
      go_meet
      exact ⟨N3, d3', unhide HX3, unhide HPK3, unhide HSZ, unhide HNB⟩
    · have hci' : (x.lc = i + 1) = False := by simp [hci]
      go_wp2_with (at_builtin; refine wpList_append_own_at _ rfl (.tmp 43) (.tmp 50) 51 rfl w1.heap.size 79 i0 (.agg #[.int .i64 0, .int .i64 0, .int .i64 0, .int .i64 0, .int .i64 0]) 5 40 Try.underlying51 hi hz0 hz1 hz2 rfl (by decide) _ _ _ rfl (unhide HN1) ⟨g, (i + 1) * 5, none⟩ D.length (x.lc - (i + 1)) (D.flatMap Pk.cells) (by rw [unhide HED]; rfl) (pk_len _) (pk_news (unhide HD) (unhide HCL2) (by have := unhide HNL; omega)) (pk_ones _) (by have := unhide HED; unfold maxLen; omega) (by have := unhide HED; omega) (by omega) ?_)
      intro v3 w3 hown3 hgrow3 _ _
      obtain ⟨N3, d3', rfl⟩ := owns_form hown3
      have hl' : i + D.length = (x.l.eraseIdx i).length := by rw [unhide HTD, List.length_append, unhide HET]
      have hO3 : Only [] w1 w3 := (unhide HO2).grown_new hgrow3 (owned_ge (unhide HN1))
      have HO3 := hide hO3
      have hown3' : w3.ownsRow w1.heap.size 79 5 (.slice N3 (x.l.eraseIdx i).length d3') (x.l.eraseIdx i).length ((x.l.eraseIdx i).flatMap Pk.cells) := by
        rw [← hl', unhide HTD, List.flatMap_append]
        exact hown3
      have HW3 := hide hown3'
      have hX3 := (unhide HX1).packets (l' := x.l.eraseIdx i) (lv' := N3) (lc' := d3') (owns_weaken (unhide HW3) (unhide HX1).bl.size) (hO3.mono (by simp))
      have HX3 := hide hX3
      have q2 : w3.cell? ⟨xb, 2, none⟩ = some (.slice (some ⟨g, 0, none⟩) nl x.lc) := ((unhide HO3).cell (p := ⟨xb, 2, none⟩) hlt1 (by simp)).trans (((unhide HO2).cell (p := ⟨xb, 2, none⟩) hlt1 (by simp)).symm.trans c22)
      have y2 : w3.frozen? ⟨xb, 2, none⟩ = false := ((unhide HO3).frozen (p := ⟨xb, 2, none⟩) hlt1 (by simp)).trans (((unhide HO2).frozen (p := ⟨xb, 2, none⟩) hlt1 (by simp)).symm.trans z22)
      have hlt3 : xb < w3.heap.size := Nat.lt_of_lt_of_le hlt1 hO3.size
      have hpx : pb ≠ xb := fun e => by omega
      have HPK3 : Hid ((w3.setCell ⟨xb, 2, none⟩ (.slice N3 (x.l.eraseIdx i).length d3')).rowIs pb 79 5 (pkF p)) := ((unhide HO3).row (unhide HPK) (by simp)).setOther hpx _
      have HNB : Hid (pb ∉ ob N3 (x.l.eraseIdx i).length d3') := fun hm => by
        have := owned_ge (unhide HW3) pb (by simpa [ob] using hm)
        omega
      have HSZ : Hid (pb < (w3.setCell ⟨xb, 2, none⟩ (.slice N3 (x.l.eraseIdx i).length d3')).heap.size) := by
        show pb < _
        rw [World.size_setCell]
        exact Nat.lt_of_lt_of_le hkb (unhide HO3).size
      clear hown3 hgrow3 hO3 hown3' hX3
      rw [hl']
      go_wp2_with fail
      go_meet
      exact ⟨N3, d3', unhide HX3, unhide HPK3, unhide HSZ, unhide HNB⟩
  case rest =>
    obtain ⟨lv', lc', hX, hPR, hpl, hnb⟩ := hcut
    have HX := hide hX
    have HPR := hide hPR
    have q0 : wc.cell? ⟨pb, 0, none⟩ = some (.int .i64 0) := (hPR.cell (show 0 < 5 by omega)).trans (by show some (Value.int .i64 p.kind) = _; rw [unhide HKD])
    have q1 : wc.cell? ⟨pb, 1, none⟩ = some (.int .i64 p.fr) := hPR.cell (show 1 < 5 by omega)
    have q2 : wc.cell? ⟨pb, 2, none⟩ = some (.int .i64 (d : Int)) := (hPR.cell (show 2 < 5 by omega)).trans (by show some (Value.int .i64 p.dst) = _; rw [unhide HDS])
    have q3 : wc.cell? ⟨pb, 3, none⟩ = some (.int .i64 p.no) := hPR.cell (show 3 < 5 by omega)
    have q4 : wc.cell? ⟨pb, 4, none⟩ = some (.int .i64 p.tm) := hPR.cell (show 4 < 5 by omega)
    have hkx : ({ x with lv := lv', lc := lc', l := x.l.eraseIdx i } : XS).K[d]? = some k := unhide HKK
    have hox : ({ x with lv := lv', lc := lc', l := x.l.eraseIdx i } : XS).O[d]? = some o := unhide HOO
    have hka := hX.ka k (List.mem_of_getElem? hkx)
    obtain ⟨gk, hkv, hgkl, hkc⟩ := hX.atK hkx
    simp only at hkv
    have r0 := hX.c0
    have hxl := hX.lt
    simp only at r0
    rw [hkv] at r0
    obtain ⟨nK, hnK⟩ : ∃ nK, x.K.length = nK := ⟨_, rfl⟩
    obtain ⟨nO, hnO⟩ : ∃ nO, x.O.length = nO := ⟨_, rfl⟩
    rw [hnK] at r0
    have hdK : d < nK := by rw [← hnK]; exact (List.getElem?_eq_some_iff.1 (unhide HKK)).1
    have hdO : d < nO := by rw [← hnO]; exact (List.getElem?_eq_some_iff.1 (unhide HOO)).1
    have HC : Hid (Calls Try.prog 14 #[.pointer (some ⟨k.wb, 0, none⟩)] wc.drew fun e w' => e = .returned (.tuple #[.int .i64 k.s.rd, .int .i64 0]) ∧ wc.drew = w') := got_any (hka.only0 ((Only.refl _ _).drew))
    clear hka hX hPR
    have gi : decide (nK ≤ d) = false := by simp; omega
    have gi2 : decide (d < nK) = true := by simp; omega
    have gi3 : (0 : Int) ≤ (d : Int) := by omega
    have gi4 : (d : Int) < (nK : Int) := by omega
    have gi5 : ¬ ((nK : Int) ≤ (d : Int)) := by omega
    have gj : decide (nO ≤ d) = false := by simp; omega
    have gj2 : decide (d < nO) = true := by simp; omega
    have gj4 : (d : Int) < (nO : Int) := by omega
    have gj5 : ¬ ((nO : Int) ≤ (d : Int)) := by omega
    go_wp2_with fail
    go_region_held3 (fun w' => w'.cell? ⟨xb, 0, none⟩ = some (.slice (some ⟨gk, 0, none⟩) nK x.kc) ∧ w'.cell? ⟨gk, d, none⟩ = some (.pointer (some ⟨k.wb, 0, none⟩)) ∧ w'.cell? ⟨pb, 2, none⟩ = some (.int .i64 (d : Int))) (first | exact ⟨r0, hkc, q2⟩ | go_keep) (first | (go_at_call 14; (with_reducible refine Calls.mono (unhide HC) ?_); rintro e w2 ⟨rfl, rfl⟩))
    have HX4 := hide ((unhide HX).quiet ((Only.refl [] wc).drew))
    have HPR4 : Hid (wc.drew.rowIs pb 79 5 (pkF p)) := ((Only.refl [] wc).drew).row (unhide HPR) (by simp)
    have e0 : wc.drew.cell? ⟨pb, 0, none⟩ = some (.int .i64 0) := q0
    have e1 : wc.drew.cell? ⟨pb, 1, none⟩ = some (.int .i64 p.fr) := q1
    have e2 : wc.drew.cell? ⟨pb, 2, none⟩ = some (.int .i64 (d : Int)) := q2
    have e3 : wc.drew.cell? ⟨pb, 3, none⟩ = some (.int .i64 p.no) := q3
    have e4 : wc.drew.cell? ⟨pb, 4, none⟩ = some (.int .i64 p.tm) := q4
    have hpl2 : pb < wc.drew.heap.size := hpl
    clear r0 hkc q0 q1 q2 q3 q4 hpl hxl HX HPR HC hgkl
    generalize wc.drew = w2 at *
    obtain ⟨go, hov, hgol, hoc, hoz⟩ := (unhide HX4).atO hox
    simp only at hov
    have r1 := (unhide HX4).c1
    have hxl2 := (unhide HX4).lt
    simp only at r1
    rw [hov, hnO] at r1
    have HOA := hide ((unhide HX4).oa o (List.mem_of_getElem? hox))
    have HOR : Hid (w2.ownsRow W.heap.size 3 1 (.slice o.A o.L.length o.c) o.L.length (o.L.map fun k => .int .i64 k)) := unhide HOA
    have HNG : Hid (xb ∉ ob o.A o.L.length o.c ∧ go ∉ ob o.A o.L.length o.c ∧ pb ∉ ob o.A o.L.length o.c) := by
      have ho' := unhide HOR
      refine ⟨fun hm => owns_row_ne ho' (unhide HX4).hd (by decide) xb (by simpa [ob] using hm) rfl, fun hm => ?_, fun hm => owns_row_ne ho' (unhide HPR4) (by decide) pb (by simpa [ob] using hm) rfl⟩
      have h1 := kind_owns ho' go (by simpa [ob] using hm)
      have h2 := kind_owns (unhide HX4).ow go (by simp [hov, Value.ownBlock])
      rw [h1] at h2
      injection h2 with h2
      exact absurd h2 (by decide)
    go_wp2_with fail
    refine wp_region_T (fun w' => w'.cell? ⟨xb, 1, none⟩ = some (.slice (some ⟨go, 0, none⟩) nO x.oc) ∧ w'.cell? ⟨pb, 2, none⟩ = some (.int .i64 (d : Int)) ∧ w'.cell? ⟨go, d, none⟩ = some (.slice o.A o.L.length o.c) ∧ w'.cell? ⟨pb, 4, none⟩ = some (.int .i64 p.tm)) 19 20 rfl (by kernel_rfl) (by kernel_rfl) (fun hN hcl => ?_)
    have hS0 : w2.drew.cell? ⟨xb, 1, none⟩ = some (.slice (some ⟨go, 0, none⟩) nO x.oc) ∧ w2.drew.cell? ⟨pb, 2, none⟩ = some (.int .i64 (d : Int)) ∧ w2.drew.cell? ⟨go, d, none⟩ = some (.slice o.A o.L.length o.c) ∧ w2.drew.cell? ⟨pb, 4, none⟩ = some (.int .i64 p.tm) := ⟨r1, e2, hoc, e4⟩
    refine wpAnyT_take (i := 0) (v := ?_) (some 85) (by kernel_rfl) (by kernel_rfl) (by kernel_rfl) (by kernel_rfl) hN (by decide) hcl (fun _ _ _ h => h) (fun oi hoi => ?hy501) hS0 ?rs501
    case hy501 =>
      simp only [List.getElem?_toArray, List.getElem?_cons_succ, List.getElem?_cons_zero, Option.some.injEq] at hoi
      subst hoi
      refine ⟨rfl, Or.inl ⟨by rfl, ?_⟩⟩
      intro w hSw
      try dsimp only at hSw
      go_simp
      try with_reducible rfl
    clear hcl
    intro hcl
    try simp only [Act.put, List.setIfInBounds_toArray, List.set_cons_zero, List.set_cons_succ]
    refine wpAnyT_take (i := 1) (v := ?_) (some 86) (by kernel_rfl) (by kernel_rfl) (by kernel_rfl) (by kernel_rfl) hN (by decide) hcl (fun _ _ _ h => h) (fun oi hoi => ?hy502) hS0 ?rs502
    case hy502 =>
      simp only [List.getElem?_toArray, List.getElem?_cons_succ, List.getElem?_cons_zero, Option.some.injEq] at hoi
      subst hoi
      refine ⟨rfl, Or.inl ⟨by rfl, ?_⟩⟩
      intro w hSw
      try dsimp only at hSw
      go_simp
      try with_reducible rfl
    clear hcl
    intro hcl
    try simp only [Act.put, List.setIfInBounds_toArray, List.set_cons_zero, List.set_cons_succ]
    refine wpAnyT_take (i := 2) (v := ?_) (some 87) (by kernel_rfl) (by kernel_rfl) (by kernel_rfl) (by kernel_rfl) hN (by decide) hcl (fun _ _ _ h => h) (fun oi hoi => ?hy503) hS0 ?rs503
    case hy503 =>
      simp only [List.getElem?_toArray, List.getElem?_cons_succ, List.getElem?_cons_zero, Option.some.injEq] at hoi
      subst hoi
      refine ⟨rfl, Or.inl ⟨by rfl, ?_⟩⟩
      intro w hSw
      try dsimp only at hSw
      go_simp
      try with_reducible rfl
    clear hcl
    intro hcl
    try simp only [Act.put, List.setIfInBounds_toArray, List.set_cons_zero, List.set_cons_succ]
    refine wpAnyT_take (i := 3) (v := ?_) (some 88) (by kernel_rfl) (by kernel_rfl) (by kernel_rfl) (by kernel_rfl) hN (by decide) hcl (fun _ _ _ h => h) (fun oi hoi => ?hy504) hS0 ?rs504
    case hy504 =>
      simp only [List.getElem?_toArray, List.getElem?_cons_succ, List.getElem?_cons_zero, Option.some.injEq] at hoi
      subst hoi
      refine ⟨rfl, Or.inl ⟨by rfl, ?_⟩⟩
      intro w hSw
      try dsimp only at hSw
      go_simp
      try with_reducible rfl
    clear hcl
    intro hcl
    try simp only [Act.put, List.setIfInBounds_toArray, List.set_cons_zero, List.set_cons_succ]
    refine wpAnyT_take (i := 4) (v := ?_) (some 89) (by kernel_rfl) (by kernel_rfl) (by kernel_rfl) (by kernel_rfl) hN (by decide) hcl (fun _ _ _ h => h) (fun oi hoi => ?hy505) hS0 ?rs505
    case hy505 =>
      simp only [List.getElem?_toArray, List.getElem?_cons_succ, List.getElem?_cons_zero, Option.some.injEq] at hoi
      subst hoi
      refine ⟨rfl, Or.inl ⟨by rfl, ?_⟩⟩
      intro w hSw
      try dsimp only at hSw
      go_simp
      try with_reducible rfl
    clear hcl
    intro hcl
    try simp only [Act.put, List.setIfInBounds_toArray, List.set_cons_zero, List.set_cons_succ]
    refine wpAnyT_take (i := 5) (v := ?_) (some 90) (by kernel_rfl) (by kernel_rfl) (by kernel_rfl) (by kernel_rfl) hN (by decide) hcl (fun _ _ _ h => h) (fun oi hoi => ?hy506) hS0 ?rs506
    case hy506 =>
      simp only [List.getElem?_toArray, List.getElem?_cons_succ, List.getElem?_cons_zero, Option.some.injEq] at hoi
      subst hoi
      refine ⟨rfl, Or.inl ⟨by rfl, ?_⟩⟩
      intro w hSw
      try dsimp only at hSw
      go_simp
      try with_reducible rfl
    clear hcl
    intro hcl
    try simp only [Act.put, List.setIfInBounds_toArray, List.set_cons_zero, List.set_cons_succ]
    refine wpAnyT_take (i := 6) (v := ?_) (some 91) (by kernel_rfl) (by kernel_rfl) (by kernel_rfl) (by kernel_rfl) hN (by decide) hcl (fun _ _ _ h => h) (fun oi hoi => ?hy507) hS0 ?rs507
    case hy507 =>
      simp only [List.getElem?_toArray, List.getElem?_cons_succ, List.getElem?_cons_zero, Option.some.injEq] at hoi
      subst hoi
      refine ⟨rfl, Or.inl ⟨by rfl, ?_⟩⟩
      intro w hSw
      try dsimp only at hSw
      go_simp
      try with_reducible rfl
    clear hcl
    intro hcl
    try simp only [Act.put, List.setIfInBounds_toArray, List.set_cons_zero, List.set_cons_succ]
    refine wpAnyT_take (i := 7) (v := ?_) (some 92) (by kernel_rfl) (by kernel_rfl) (by kernel_rfl) (by kernel_rfl) hN (by decide) hcl (fun _ _ _ h => h) (fun oi hoi => ?hy508) hS0 ?rs508
    case hy508 =>
      simp only [List.getElem?_toArray, List.getElem?_cons_succ, List.getElem?_cons_zero, Option.some.injEq] at hoi
      subst hoi
      refine ⟨rfl, Or.inl ⟨by rfl, ?_⟩⟩
      intro w hSw
      try dsimp only at hSw
      go_simp
      try with_reducible rfl
    clear hcl
    intro hcl
    try simp only [Act.put, List.setIfInBounds_toArray, List.set_cons_zero, List.set_cons_succ]
    refine wpAnyT_take (i := 8) (v := ?_) (some 93) (by kernel_rfl) (by kernel_rfl) (by kernel_rfl) (by kernel_rfl) hN (by decide) hcl (fun _ _ _ h => h) (fun oi hoi => ?hy509) hS0 ?rs509
    case hy509 =>
      simp only [List.getElem?_toArray, List.getElem?_cons_succ, List.getElem?_cons_zero, Option.some.injEq] at hoi
      subst hoi
      refine ⟨rfl, Or.inl ⟨by rfl, ?_⟩⟩
      intro w hSw
      try dsimp only at hSw
      go_simp
      try with_reducible rfl
    clear hcl
    intro hcl
    try simp only [Act.put, List.setIfInBounds_toArray, List.set_cons_zero, List.set_cons_succ]
    refine wpAnyT_take (i := 9) (v := ?_) (some 94) (by kernel_rfl) (by kernel_rfl) (by kernel_rfl) (by kernel_rfl) hN (by decide) hcl (fun _ _ _ h => h) (fun oi hoi => ?hy510) hS0 ?rs510
    case hy510 =>
      simp only [List.getElem?_toArray, List.getElem?_cons_succ, List.getElem?_cons_zero, Option.some.injEq] at hoi
      subst hoi
      refine ⟨rfl, Or.inl ⟨by rfl, ?_⟩⟩
      intro w hSw
      try dsimp only at hSw
      go_simp
      try with_reducible rfl
    clear hcl
    intro hcl
    try simp only [Act.put, List.setIfInBounds_toArray, List.set_cons_zero, List.set_cons_succ]
    refine wpAnyT_take (i := 10) (v := ?_) (some 95) (by kernel_rfl) (by kernel_rfl) (by kernel_rfl) (by kernel_rfl) hN (by decide) hcl (fun _ _ _ h => h) (fun oi hoi => ?hy511) hS0 ?rs511
    case hy511 =>
      simp only [List.getElem?_toArray, List.getElem?_cons_succ, List.getElem?_cons_zero, Option.some.injEq] at hoi
      subst hoi
      refine ⟨rfl, Or.inl ⟨by rfl, ?_⟩⟩
      intro w hSw
      try dsimp only at hSw
      go_simp
      try with_reducible rfl
    clear hcl
    intro hcl
    try simp only [Act.put, List.setIfInBounds_toArray, List.set_cons_zero, List.set_cons_succ]
    refine wpAnyT_take (i := 11) (v := ?_) (some 96) (by kernel_rfl) (by kernel_rfl) (by kernel_rfl) (by kernel_rfl) hN (by decide) hcl (fun _ _ _ h => h) (fun oi hoi => ?hy512) hS0 ?rs512
    case hy512 =>
      simp only [List.getElem?_toArray, List.getElem?_cons_succ, List.getElem?_cons_zero, Option.some.injEq] at hoi
      subst hoi
      refine ⟨rfl, Or.inl ⟨by rfl, ?_⟩⟩
      intro w hSw
      try dsimp only at hSw
      go_simp
      try with_reducible rfl
    clear hcl
    intro hcl
    try simp only [Act.put, List.setIfInBounds_toArray, List.set_cons_zero, List.set_cons_succ]
    refine wpAnyT_take (i := 12) (v := ?_) (some 97) (by kernel_rfl) (by kernel_rfl) (by kernel_rfl) (by kernel_rfl) hN (by decide) hcl (fun _ _ _ h => h) (fun oi hoi => ?hy513) hS0 ?rs513
    case hy513 =>
      simp only [List.getElem?_toArray, List.getElem?_cons_succ, List.getElem?_cons_zero, Option.some.injEq] at hoi
      subst hoi
      refine ⟨rfl, Or.inl ⟨by rfl, ?_⟩⟩
      intro w hSw
      try dsimp only at hSw
      go_simp
      try with_reducible rfl
    clear hcl
    intro hcl
    try simp only [Act.put, List.setIfInBounds_toArray, List.set_cons_zero, List.set_cons_succ]
    refine wpAnyT_take (i := 13) (v := ?_) (some 98) (by kernel_rfl) (by kernel_rfl) (by kernel_rfl) (by kernel_rfl) hN (by decide) hcl (fun _ _ _ h => h) (fun oi hoi => ?hy514) hS0 ?rs514
    case hy514 =>
      simp only [List.getElem?_toArray, List.getElem?_cons_succ, List.getElem?_cons_zero, Option.some.injEq] at hoi
      subst hoi
      refine ⟨rfl, Or.inl ⟨by rfl, ?_⟩⟩
      intro w hSw
      try dsimp only at hSw
      go_simp
      try with_reducible rfl
    clear hcl
    intro hcl
    try simp only [Act.put, List.setIfInBounds_toArray, List.set_cons_zero, List.set_cons_succ]
    refine wpAnyT_take (i := 14) (v := ?_) (some 99) (by kernel_rfl) (by kernel_rfl) (by kernel_rfl) (by kernel_rfl) hN (by decide) hcl (fun _ _ _ h => h) (fun oi hoi => ?hy515) hS0 ?rs515
    case hy515 =>
      simp only [List.getElem?_toArray, List.getElem?_cons_succ, List.getElem?_cons_zero, Option.some.injEq] at hoi
      subst hoi
      refine ⟨rfl, Or.inl ⟨by rfl, ?_⟩⟩
      intro w hSw
      try dsimp only at hSw
      go_simp
      try with_reducible rfl
    clear hcl
    intro hcl
    try simp only [Act.put, List.setIfInBounds_toArray, List.set_cons_zero, List.set_cons_succ]
    refine wpAnyT_take (i := 15) (v := ?_) (some 100) (by kernel_rfl) (by kernel_rfl) (by kernel_rfl) (by kernel_rfl) hN (by decide) hcl (fun _ _ _ h => h) (fun oi hoi => ?hy516) hS0 ?rs516
    case hy516 =>
      simp only [List.getElem?_toArray, List.getElem?_cons_succ, List.getElem?_cons_zero, Option.some.injEq] at hoi
      subst hoi
      refine ⟨rfl, Or.inl ⟨by rfl, ?_⟩⟩
      intro w hSw
      try dsimp only at hSw
      go_simp
      try with_reducible rfl
    clear hcl
    intro hcl
    try simp only [Act.put, List.setIfInBounds_toArray, List.set_cons_zero, List.set_cons_succ]
    refine wpAnyT_one (i := 16) (by kernel_rfl) (by kernel_rfl) hcl (fun oi hoi K' hK' => ?_)
    clear hcl
    simp only [List.getElem?_toArray, List.getElem?_cons_succ, List.getElem?_cons_zero, Option.some.injEq] at hoi
    subst hoi
    go_simp
    refine (unhide hK') _ _ (.inr ⟨(World.cell?_alloc_lt _ _ _ hxl2).trans r1, (World.cell?_alloc_lt _ _ _ hpl2).trans e2, (World.cell?_alloc_lt _ _ _ hgol).trans hoc, (World.cell?_alloc_lt _ _ _ hpl2).trans e4⟩) (fun hcl => ?_)
    clear hK' K'
    refine wpAnyT_one (i := 17) (by kernel_rfl) (by kernel_rfl) hcl (fun oi hoi K' hK' => ?_)
    clear hcl
    simp only [List.getElem?_toArray, List.getElem?_cons_succ, List.getElem?_cons_zero, Option.some.injEq] at hoi
    subst hoi
    refine step_append_lies _ rfl (.tmp 98) (.tmp 101) 28 rfl W.heap.size 3 i3 (.int .i64 0) 1 8 Try.underlying28 hi3 hy0 hy1 hy2 rfl (by decide) _ _ _ rfl (((unhide HOR).alloc _).drew) ⟨w2.heap.size, 0, none⟩ 1 1 [.int .i64 p.tm] rfl rfl (new_cells_drew w2 #[.int .i64 p.tm] 3 _ rfl) (by intro u hu; simp at hu; rw [hu]; rfl) (by omega) (by unfold maxLen; omega) (by omega) (by have := (unhide HX4).bl.size; simp; omega) _ rfl ?_
    intro g9' cap9 w5 hown hgrow hat hlt9
    have hO5 : Only (ob o.A o.L.length o.c) w2 w5 := ((((Only.refl [] w2).alloc _).drew).mono (by simp)).trans (only_grown hgrow)
    have hX5 := (unhide HX4).openAt (A' := some ⟨g9', 0, none⟩) (c' := cap9) (L' := o.L ++ [p.tm]) hox hov (by unfold OwnsI; simpa [List.length_append, List.map_append] using hown) hO5 (fun b hb => by
      rcases hat with e | e
      · refine .inl ?_
        have : b = g9' := by simpa [Value.ownBlock] using hb.symm
        rw [this]
        exact e
      · refine .inr ?_
        have : b = g9' := by simpa [Value.ownBlock] using hb.symm
        rw [this, e]
        simp)
    have HX5 := hide hX5
    have y1 := (hO5.cell (p := ⟨xb, 1, none⟩) hxl2 (unhide HNG).1).trans r1
    have y2 := (hO5.cell (p := ⟨pb, 2, none⟩) hpl2 (unhide HNG).2.2).trans e2
    have yo := (hO5.cell (p := ⟨go, d, none⟩) hgol (unhide HNG).2.1).trans hoc
    have yz := (hO5.frozen (p := ⟨go, d, none⟩) hgol (unhide HNG).2.1).trans hoz
    have y4 := (hO5.cell (p := ⟨pb, 4, none⟩) hpl2 (unhide HNG).2.2).trans e4
    have hS1 := And.intro y1 (And.intro y2 (And.intro yo y4))
    have hgl5 : go < w5.heap.size := Nat.lt_of_lt_of_le hgol hO5.size
    have hpg : pb ≠ go := fun e => by
      have h1 := kind_row (unhide HPR4)
      have h2 := kind_owns (unhide HX4).ow go (by simp [hov, Value.ownBlock])
      rw [e, h2] at h1
      injection h1 with h1
      exact absurd h1 (by decide)
    have HPR5 : Hid ((w5.setCell ⟨go, d, none⟩ (.slice (some ⟨g9', 0, none⟩) (o.L ++ [p.tm]).length cap9)).rowIs pb 79 5 (pkF p)) := (hO5.row (unhide HPR4) (unhide HNG).2.2).setOther hpg _
    clear hown hgrow hat hlt9 hS0 hO5 hX5
    refine (unhide hK') _ _ (.inr hS1) (fun hcl => ?_)
    clear hK' K'
    try simp only [Act.put, List.setIfInBounds_toArray, List.set_cons_zero, List.set_cons_succ]
    refine wpAnyT_take (i := 18) (v := ?_) (some 103) (by kernel_rfl) (by kernel_rfl) (by kernel_rfl) (by kernel_rfl) hN (by decide) hcl (fun _ _ _ h => h) (fun oi hoi => ?hy517) hS1 ?rs517
    case hy517 =>
      simp only [List.getElem?_toArray, List.getElem?_cons_succ, List.getElem?_cons_zero, Option.some.injEq] at hoi
      subst hoi
      refine ⟨rfl, Or.inl ⟨by rfl, ?_⟩⟩
      intro w hSw
      try dsimp only at hSw
      go_simp
      try with_reducible rfl
    clear hcl
    intro hcl
    try simp only [Act.put, List.setIfInBounds_toArray, List.set_cons_zero, List.set_cons_succ]
    refine wpAnyT_one (i := 19) (by kernel_rfl) (by kernel_rfl) hcl (fun oi hoi K' hK' => ?_)
    clear hcl
    simp only [List.getElem?_toArray, List.getElem?_cons_succ, List.getElem?_cons_zero, Option.some.injEq] at hoi
    subst hoi
    go_simp
    refine (unhide hK') _ _ (.inl rfl) (fun hcl => ?_)
    refine wpAnyT_done (by kernel_rfl) ?_ _
    have elen : (o.L ++ [p.tm]).length = o.L.length + 1 := by simp
    rw [elen] at HX5 HPR5
    clear hK' K' hcl hN hS1 y1 y2 yo yz y4 r1 hoc hoz e0 e1 e2 e3 e4 hpl2 hxl2
    generalize w5.setCell ⟨go, d, none⟩ _ = w6 at *
    have q1 : w6.cell? ⟨pb, 1, none⟩ = some (.int .i64 p.fr) := (unhide HPR5).cell (show 1 < 5 by omega)
    have q2 : w6.cell? ⟨pb, 2, none⟩ = some (.int .i64 (d : Int)) := ((unhide HPR5).cell (show 2 < 5 by omega)).trans (by show some (Value.int .i64 p.dst) = _; rw [unhide HDS])
    have q3 : w6.cell? ⟨pb, 3, none⟩ = some (.int .i64 p.no) := (unhide HPR5).cell (show 3 < 5 by omega)
    have hpl6 := (unhide HPR5).lt
    have s2 := (unhide HX5).c2
    have sz2 := (unhide HX5).z 2
    have hxl6 := (unhide HX5).lt
    have HLR := hide (unhide HX5).lr'
    simp only at s2 HLR
    have hln : (x.l.eraseIdx i).length ≤ 100000 := by
      have h1 := List.length_eraseIdx_le x.l i
      have h2 := unhide HNL
      omega
    clear hgl5
    go_wp2_with fail
    refine wp_region_T (fun w' => w'.cell? ⟨xb, 2, none⟩ = some (.slice lv' (x.l.eraseIdx i).length lc') ∧ w'.cell? ⟨pb, 1, none⟩ = some (.int .i64 p.fr) ∧ w'.cell? ⟨pb, 2, none⟩ = some (.int .i64 (d : Int)) ∧ w'.cell? ⟨pb, 3, none⟩ = some (.int .i64 p.no)) 17 18 rfl (by kernel_rfl) (by kernel_rfl) (fun hN hcl => ?_)
    have hS0 : w6.drew.cell? ⟨xb, 2, none⟩ = some (.slice lv' (x.l.eraseIdx i).length lc') ∧ w6.drew.cell? ⟨pb, 1, none⟩ = some (.int .i64 p.fr) ∧ w6.drew.cell? ⟨pb, 2, none⟩ = some (.int .i64 (d : Int)) ∧ w6.drew.cell? ⟨pb, 3, none⟩ = some (.int .i64 p.no) := ⟨s2, q1, q2, q3⟩
    refine wpAnyT_take (i := 0) (v := ?_) (some 104) (by kernel_rfl) (by kernel_rfl) (by kernel_rfl) (by kernel_rfl) hN (by decide) hcl (fun _ _ _ h => h) (fun oi hoi => ?hy518) hS0 ?rs518
    case hy518 =>
      simp only [List.getElem?_toArray, List.getElem?_cons_succ, List.getElem?_cons_zero, Option.some.injEq] at hoi
      subst hoi
      refine ⟨rfl, Or.inl ⟨by rfl, ?_⟩⟩
      intro w hSw
      try dsimp only at hSw
      go_simp
      try with_reducible rfl
    clear hcl
    intro hcl
    try simp only [Act.put, List.setIfInBounds_toArray, List.set_cons_zero, List.set_cons_succ]
    refine wpAnyT_take (i := 1) (v := ?_) (some 105) (by kernel_rfl) (by kernel_rfl) (by kernel_rfl) (by kernel_rfl) hN (by decide) hcl (fun _ _ _ h => h) (fun oi hoi => ?hy519) hS0 ?rs519
    case hy519 =>
      simp only [List.getElem?_toArray, List.getElem?_cons_succ, List.getElem?_cons_zero, Option.some.injEq] at hoi
      subst hoi
      refine ⟨rfl, Or.inl ⟨by rfl, ?_⟩⟩
      intro w hSw
      try dsimp only at hSw
      go_simp
      try with_reducible rfl
    clear hcl
    intro hcl
    try simp only [Act.put, List.setIfInBounds_toArray, List.set_cons_zero, List.set_cons_succ]
    refine wpAnyT_take (i := 2) (v := ?_) (some 106) (by kernel_rfl) (by kernel_rfl) (by kernel_rfl) (by kernel_rfl) hN (by decide) hcl (fun _ _ _ h => h) (fun oi hoi => ?hy520) hS0 ?rs520
    case hy520 =>
      simp only [List.getElem?_toArray, List.getElem?_cons_succ, List.getElem?_cons_zero, Option.some.injEq] at hoi
      subst hoi
      refine ⟨rfl, Or.inl ⟨by rfl, ?_⟩⟩
      intro w hSw
      try dsimp only at hSw
      go_simp
      try with_reducible rfl
    clear hcl
    intro hcl
    try simp only [Act.put, List.setIfInBounds_toArray, List.set_cons_zero, List.set_cons_succ]
    refine wpAnyT_take (i := 3) (v := ?_) (some 107) (by kernel_rfl) (by kernel_rfl) (by kernel_rfl) (by kernel_rfl) hN (by decide) hcl (fun _ _ _ h => h) (fun oi hoi => ?hy521) hS0 ?rs521
    case hy521 =>
      simp only [List.getElem?_toArray, List.getElem?_cons_succ, List.getElem?_cons_zero, Option.some.injEq] at hoi
      subst hoi
      refine ⟨rfl, Or.inl ⟨by rfl, ?_⟩⟩
      intro w hSw
      try dsimp only at hSw
      go_simp
      try with_reducible rfl
    clear hcl
    intro hcl
    try simp only [Act.put, List.setIfInBounds_toArray, List.set_cons_zero, List.set_cons_succ]
    refine wpAnyT_take (i := 4) (v := ?_) (some 108) (by kernel_rfl) (by kernel_rfl) (by kernel_rfl) (by kernel_rfl) hN (by decide) hcl (fun _ _ _ h => h) (fun oi hoi => ?hy522) hS0 ?rs522
    case hy522 =>
      simp only [List.getElem?_toArray, List.getElem?_cons_succ, List.getElem?_cons_zero, Option.some.injEq] at hoi
      subst hoi
      refine ⟨rfl, Or.inl ⟨by rfl, ?_⟩⟩
      intro w hSw
      try dsimp only at hSw
      go_simp
      try with_reducible rfl
    clear hcl
    intro hcl
    try simp only [Act.put, List.setIfInBounds_toArray, List.set_cons_zero, List.set_cons_succ]
    refine wpAnyT_take (i := 5) (v := ?_) (some 109) (by kernel_rfl) (by kernel_rfl) (by kernel_rfl) (by kernel_rfl) hN (by decide) hcl (fun _ _ _ h => h) (fun oi hoi => ?hy523) hS0 ?rs523
    case hy523 =>
      simp only [List.getElem?_toArray, List.getElem?_cons_succ, List.getElem?_cons_zero, Option.some.injEq] at hoi
      subst hoi
      refine ⟨rfl, Or.inl ⟨by rfl, ?_⟩⟩
      intro w hSw
      try dsimp only at hSw
      go_simp
      try with_reducible rfl
    clear hcl
    intro hcl
    try simp only [Act.put, List.setIfInBounds_toArray, List.set_cons_zero, List.set_cons_succ]
    refine wpAnyT_take (i := 6) (v := ?_) (some 110) (by kernel_rfl) (by kernel_rfl) (by kernel_rfl) (by kernel_rfl) hN (by decide) hcl (fun _ _ _ h => h) (fun oi hoi => ?hy524) hS0 ?rs524
    case hy524 =>
      simp only [List.getElem?_toArray, List.getElem?_cons_succ, List.getElem?_cons_zero, Option.some.injEq] at hoi
      subst hoi
      refine ⟨rfl, Or.inl ⟨by rfl, ?_⟩⟩
      intro w hSw
      try dsimp only at hSw
      go_simp
      try with_reducible rfl
    clear hcl
    intro hcl
    try simp only [Act.put, List.setIfInBounds_toArray, List.set_cons_zero, List.set_cons_succ]
    refine wpAnyT_take (i := 7) (v := ?_) (some 111) (by kernel_rfl) (by kernel_rfl) (by kernel_rfl) (by kernel_rfl) hN (by decide) hcl (fun _ _ _ h => h) (fun oi hoi => ?hy525) hS0 ?rs525
    case hy525 =>
      simp only [List.getElem?_toArray, List.getElem?_cons_succ, List.getElem?_cons_zero, Option.some.injEq] at hoi
      subst hoi
      refine ⟨rfl, Or.inl ⟨by rfl, ?_⟩⟩
      intro w hSw
      try dsimp only at hSw
      go_simp
      try with_reducible rfl
    clear hcl
    intro hcl
    try simp only [Act.put, List.setIfInBounds_toArray, List.set_cons_zero, List.set_cons_succ]
    refine wpAnyT_take (i := 8) (v := ?_) (some 112) (by kernel_rfl) (by kernel_rfl) (by kernel_rfl) (by kernel_rfl) hN (by decide) hcl (fun _ _ _ h => h) (fun oi hoi => ?hy526) hS0 ?rs526
    case hy526 =>
      simp only [List.getElem?_toArray, List.getElem?_cons_succ, List.getElem?_cons_zero, Option.some.injEq] at hoi
      subst hoi
      refine ⟨rfl, Or.inl ⟨by rfl, ?_⟩⟩
      intro w hSw
      try dsimp only at hSw
      go_simp
      try with_reducible rfl
    clear hcl
    intro hcl
    try simp only [Act.put, List.setIfInBounds_toArray, List.set_cons_zero, List.set_cons_succ]
    refine wpAnyT_take (i := 9) (v := ?_) (some 113) (by kernel_rfl) (by kernel_rfl) (by kernel_rfl) (by kernel_rfl) hN (by decide) hcl (fun _ _ _ h => h) (fun oi hoi => ?hy527) hS0 ?rs527
    case hy527 =>
      simp only [List.getElem?_toArray, List.getElem?_cons_succ, List.getElem?_cons_zero, Option.some.injEq] at hoi
      subst hoi
      refine ⟨rfl, Or.inl ⟨by rfl, ?_⟩⟩
      intro w hSw
      try dsimp only at hSw
      go_simp
      try with_reducible rfl
    clear hcl
    intro hcl
    try simp only [Act.put, List.setIfInBounds_toArray, List.set_cons_zero, List.set_cons_succ]
    refine wpAnyT_take (i := 10) (v := ?_) (some 114) (by kernel_rfl) (by kernel_rfl) (by kernel_rfl) (by kernel_rfl) hN (by decide) hcl (fun _ _ _ h => h) (fun oi hoi => ?hy528) hS0 ?rs528
    case hy528 =>
      simp only [List.getElem?_toArray, List.getElem?_cons_succ, List.getElem?_cons_zero, Option.some.injEq] at hoi
      subst hoi
      refine ⟨rfl, Or.inl ⟨by rfl, ?_⟩⟩
      intro w hSw
      try dsimp only at hSw
      go_simp
      try with_reducible rfl
    clear hcl
    intro hcl
    try simp only [Act.put, List.setIfInBounds_toArray, List.set_cons_zero, List.set_cons_succ]
    refine wpAnyT_take (i := 11) (v := ?_) (some 115) (by kernel_rfl) (by kernel_rfl) (by kernel_rfl) (by kernel_rfl) hN (by decide) hcl (fun _ _ _ h => h) (fun oi hoi => ?hy529) hS0 ?rs529
    case hy529 =>
      simp only [List.getElem?_toArray, List.getElem?_cons_succ, List.getElem?_cons_zero, Option.some.injEq] at hoi
      subst hoi
      refine ⟨rfl, Or.inl ⟨by rfl, ?_⟩⟩
      intro w hSw
      try dsimp only at hSw
      go_simp
      try with_reducible rfl
    clear hcl
    intro hcl
    try simp only [Act.put, List.setIfInBounds_toArray, List.set_cons_zero, List.set_cons_succ]
    refine wpAnyT_take (i := 12) (v := ?_) (some 116) (by kernel_rfl) (by kernel_rfl) (by kernel_rfl) (by kernel_rfl) hN (by decide) hcl (fun _ _ _ h => h) (fun oi hoi => ?hy530) hS0 ?rs530
    case hy530 =>
      simp only [List.getElem?_toArray, List.getElem?_cons_succ, List.getElem?_cons_zero, Option.some.injEq] at hoi
      subst hoi
      refine ⟨rfl, Or.inl ⟨by rfl, ?_⟩⟩
      intro w hSw
      try dsimp only at hSw
      go_simp
      try with_reducible rfl
    clear hcl
    intro hcl
    try simp only [Act.put, List.setIfInBounds_toArray, List.set_cons_zero, List.set_cons_succ]
    refine wpAnyT_one (i := 13) (by kernel_rfl) (by kernel_rfl) hcl (fun oi hoi K' hK' => ?_)
    clear hcl
    simp only [List.getElem?_toArray, List.getElem?_cons_succ, List.getElem?_cons_zero, Option.some.injEq] at hoi
    subst hoi
    go_simp
    refine (unhide hK') _ _ (.inr ⟨(World.cell?_alloc_lt _ _ _ hxl6).trans s2, (World.cell?_alloc_lt _ _ _ hpl6).trans q1, (World.cell?_alloc_lt _ _ _ hpl6).trans q2, (World.cell?_alloc_lt _ _ _ hpl6).trans q3⟩) (fun hcl => ?_)
    clear hK' K'
    refine wpAnyT_one (i := 14) (by kernel_rfl) (by kernel_rfl) hcl (fun oi hoi K' hK' => ?_)
    clear hcl
    simp only [List.getElem?_toArray, List.getElem?_cons_succ, List.getElem?_cons_zero, Option.some.injEq] at hoi
    subst hoi
    refine step_append_lies _ rfl (.tmp 108) (.tmp 117) 51 rfl W.heap.size 79 i0 (.agg #[.int .i64 0, .int .i64 0, .int .i64 0, .int .i64 0, .int .i64 0]) 5 40 Try.underlying51 hi hz0 hz1 hz2 rfl (by decide) _ _ _ rfl (((unhide HLR).alloc _).drew) ⟨w6.heap.size, 0, none⟩ 1 1 (Pk.cells ⟨1, (d : Int), p.fr, p.no, k.s.rd⟩) rfl rfl (new_cells_drew _ _ 79 _ rfl) (pk_one _) (by omega) (by unfold maxLen; omega) (by omega) (by have := (unhide HX5).bl.size; simp; omega) _ rfl ?_
    intro g8' cap8 w7 hown hgrow hat hlt9
    have HST := hide (pushed_step (unhide HX5) ⟨1, (d : Int), p.fr, p.no, k.s.rd⟩ hown hgrow)
    have y2 := ((unhide HST).1.frozen (p := ⟨xb, 2, none⟩) hxl6 (unhide HST).2.1).trans sz2
    have yc := ((unhide HST).1.cell (p := ⟨xb, 2, none⟩) hxl6 (unhide HST).2.1).trans s2
    have y1 := ((unhide HST).1.cell (p := ⟨pb, 1, none⟩) hpl6 hnb).trans q1
    have y3 := ((unhide HST).1.cell (p := ⟨pb, 2, none⟩) hpl6 hnb).trans q2
    have y4 := ((unhide HST).1.cell (p := ⟨pb, 3, none⟩) hpl6 hnb).trans q3
    have hS1 := And.intro yc (And.intro y1 (And.intro y3 y4))
    have hxl7 : xb < w7.heap.size := Nat.lt_of_lt_of_le hxl6 (unhide HST).1.size
    clear hown hgrow hat hlt9 hS0
    refine (unhide hK') _ _ (.inr hS1) (fun hcl => ?_)
    clear hK' K'
    try simp only [Act.put, List.setIfInBounds_toArray, List.set_cons_zero, List.set_cons_succ]
    refine wpAnyT_take (i := 15) (v := ?_) (some 119) (by kernel_rfl) (by kernel_rfl) (by kernel_rfl) (by kernel_rfl) hN (by decide) hcl (fun _ _ _ h => h) (fun oi hoi => ?hy531) hS1 ?rs531
    case hy531 =>
      simp only [List.getElem?_toArray, List.getElem?_cons_succ, List.getElem?_cons_zero, Option.some.injEq] at hoi
      subst hoi
      refine ⟨rfl, Or.inl ⟨by rfl, ?_⟩⟩
      intro w hSw
      try dsimp only at hSw
      go_simp
      try with_reducible rfl
    clear hcl
    intro hcl
    try simp only [Act.put, List.setIfInBounds_toArray, List.set_cons_zero, List.set_cons_succ]
    refine wpAnyT_take (i := 16) (v := ?_) (some 120) (by kernel_rfl) (by kernel_rfl) (by kernel_rfl) (by kernel_rfl) hN (by decide) hcl (fun _ _ _ h => h) (fun oi hoi => ?hy532) hS1 ?rs532
    case hy532 =>
      simp only [List.getElem?_toArray, List.getElem?_cons_succ, List.getElem?_cons_zero, Option.some.injEq] at hoi
      subst hoi
      refine ⟨rfl, Or.inl ⟨by rfl, ?_⟩⟩
      intro w hSw
      try dsimp only at hSw
      go_simp
      try with_reducible rfl
    clear hcl
    intro hcl
    try simp only [Act.put, List.setIfInBounds_toArray, List.set_cons_zero, List.set_cons_succ]
    refine wpAnyT_one (i := 17) (by kernel_rfl) (by kernel_rfl) hcl (fun oi hoi K' hK' => ?_)
    clear hcl
    simp only [List.getElem?_toArray, List.getElem?_cons_succ, List.getElem?_cons_zero, Option.some.injEq] at hoi
    subst hoi
    go_simp
    refine (unhide hK') _ _ (.inl rfl) (fun hcl => ?_)
    refine wpAnyT_done (by kernel_rfl) ?_ _
    have HX6 := hide (unhide HST).2.2
    clear hK' K' hcl hN hS1 y2 yc y3 y4 y1 HST
    generalize w7.setCell ⟨xb, 2, none⟩ _ = w8 at *
    have t5 := (unhide HX6).c5
    have tz5 := (unhide HX6).z 5
    have hxl8 := (unhide HX6).lt
    clear hxl7 s2 sz2 hxl6 q1 q2 q3 hpl6
    go_wp2_with fail
    have hX7 := (unhide HX6).setBad
    first | go_end0 | refine bodyPost_ret (results_none rfl _ _ _) rfl ?_
    simp only [hkv, hov] at hX7
    first | exact ⟨rfl, _, _, _, _, hX7⟩ | (simp only [hkv, hov]; exact ⟨rfl, _, _, _, _, hX7⟩)
end
end Go.Proofs.Ytdommbaljchofaa
