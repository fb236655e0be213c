/-
  GvtLocal: the walk.
-/
import Derived.Test.YtdommbaljchofaaT
namespace Go.Proofs.Ytdommbaljchofaa
open Go.RowKit Go.Deep
set_option linter.unusedVariables false

set_option maxRecDepth 100000 in
set_option maxHeartbeats 4000000 in
theorem local_main {w : World} {m c p1 p2 : Nat} {A L1 L2 : Option Addr} {ops : Nat → OpV} {lc mr : List Int} (hfew : fewB m ops = true) (hO : OpsAt w A m ops) (hl : lc.length ≤ 20) (hm2 : mr.length ≤ 20) (hI1 : IntsAt w L1 lc) (hI2 : IntsAt w L2 mr) :
    Calls Try.prog 4 #[.slice A m c, .slice L1 lc.length p1, .slice L2 mr.length p2] w fun e w' => e = .returned (.bool true) ∧ Below w.heap.size w w' := by
  obtain ⟨i0, hi, hz0, hz1, hz2⟩ := info_parts Try.info3'
  have hm : m ≤ 60 := (few_yes.1 hfew).2
  have HL : Hid (∀ i < m, (ops i).l.length ≤ 20) := (few_yes.1 hfew).1
  have HO : Hid (OpsAt w A m ops) := hO
  have HF := hide hfew
  have HI1 := hide hI1
  have HI2 := hide hI2
  have d1 : decide (20 < lc.length) = false := by simp; omega
  have d2 : decide (20 < mr.length) = false := by simp; omega
  clear hO hfew hI1 hI2
  go_enter Try.func4, Try.ntmps4
  go_wp2_with fail
  refine (new_any _).mono ?_
  rintro e w1 ⟨wa, ma, rfl, hW, hb, b1, b2⟩
  have HW := hide hW
  have HB : Hid (Below w.heap.size w w1) := hb
  have hs1 := hb.size
  clear hW hb
  go_wp2_with fail
  refine (new_any _).mono ?_
  rintro e w2 ⟨wb, mb, rfl, hW, hb, b3, b4⟩
  have HW2 := hide hW
  have HB2 : Hid (Below w1.heap.size w1 w2) := hb
  have HO1 : Hid (OpsAt w2 A m ops) := (HO.out.below HB.out).below hb
  clear hW hb
  go_wp2_with (go_at_call 10; refine (few_any (by omega) HO1.out (unhide HF)).mono ?_; rintro e w' ⟨rfl, rfl⟩)
  go_loopg [10] m (fun g i wr => ∃ (k na nb : Nat) (A1 A2 : Option Addr) (c1 c2 : Nat) (s t : WS), k + g = m ∧ i = .int .i64 k ∧ na ≤ k ∧ nb ≤ k ∧ s.Good k ∧ t.Good (2 * k) ∧ LM w wr wa ma na wb mb nb w2.heap.size A1 A2 c1 c2 s s t)
  case atStart => exact ⟨0, 0, 0, none, none, 0, 0, ⟨0, Never, []⟩, ⟨0, Never, []⟩, by omega, rfl, by omega, by omega, ⟨by simp, by simp, by simp, by simp⟩, ⟨by simp, by simp, by simp, by simp⟩, LM.start (unhide HW) HB.out b1 b2 (unhide HW2) HB2.out b3 b4⟩
  case round =>
    obtain ⟨k, na, nb, A1, A2, c1', c2', s, t, hkg, rfl, hna, hnb, hG, hGt, hR⟩ := hrel
    have HR := hide hR
    have HG := hide hG
    have HGt := hide hGt
    have HS : Hid (w2.heap.size = w2.heap.size) := rfl
    generalize w2.heap.size = rb at *
    by_cases hk : k < m
    · obtain ⟨b, off, B, d, rfl, hbw, ho0⟩ := HO.out k hk
      have ho := ho0.below hbw hR.bl
      have hbl : b < wr.heap.size := Nat.lt_of_lt_of_le hbw hR.bl.size
      have HWa := hide ho0.wa
      have HBW : Hid ((ops k).l ≠ [] → ∀ a, B = some a → a.block < w.heap.size) := fun hne a ha => ho0.il.lt hne a ha
      have HLl : Hid ((ops k).l.length ≤ 1000) := by have := HL.out k hk; show (ops k).l.length ≤ 1000; omega
      have HO0 : Hid (∀ w', Below w.heap.size w w' → OpAt w' b (off + k * 5) (ops k) B d) := fun w' h => ho0.below hbw h
      clear hR ho0 hG hGt ho
      have g1 : decide (m ≤ k) = false := by simp; omega
      have g2 : decide (k < m) = true := by simp; omega
      obtain ⟨o, ho⟩ : ∃ o, ops k = o := ⟨_, rfl⟩
      rw [ho] at HWa HBW HLl HO0
      clear ho
      have hoc := (unhide HO0) _ (unhide HR).bl
      have q0 := hoc.c0
      have q1 := hoc.c1
      have q2 := hoc.c2
      have q3 := hoc.c3
      have q4 := hoc.c4
      have HIl := hide hoc.il
      clear hoc
      go_wp2_with fail
      refine Calls.mono (does_any (o := o) (s := s) (t := t) (d := d) (unhide HR).a (by omega) (unhide HR).r (unhide HR).bl.size ((unhide HG).more (by omega)) ((unhide HGt).more (by omega)) (apart (unhide HR).a (unhide HR).r).1 (apart (unhide HR).a (unhide HR).r).2 (unhide HWa) (unhide HIl) (unhide HLl) (fun hne a ha => by have := (unhide HBW) hne a ha; simp; omega)) ?_
      rintro e w3 ⟨bb, rfl, _, n', hn', hW3, A1', A2', c1'', c2'', hR3, hO3⟩
      have hX := (unhide HR).stepA hW3 hR3 hO3
      have HX := hide hX
      have HG2 := hide ((unhide HG).step o)
      have HGt2 := hide ((unhide HGt).step o)
      clear hW3 hR3 hO3 q0 q1 q2 q3 q4 HIl hX
      have hoc := (unhide HO0) _ (unhide HX).bl
      have hbl3 : b < w3.heap.size := Nat.lt_of_lt_of_le hbw (unhide HX).bl.size
      have q0 := hoc.c0
      have q1 := hoc.c1
      have q2 := hoc.c2
      have q3 := hoc.c3
      have q4 := hoc.c4
      have HIl := hide hoc.il
      clear hoc
      go_wp2_with fail
      refine Calls.mono (does_any (o := o) (s := s) (t := t.step o) (d := d) (unhide HX).b (by omega) (unhide HX).r (unhide HX).bl.size ((unhide HG).more (by omega)) ((unhide HGt2).more (by omega)) (apart (unhide HX).b (unhide HX).r).1 (apart (unhide HX).b (unhide HX).r).2 (unhide HWa) (unhide HIl) (unhide HLl) (fun hne a ha => by have := (unhide HBW) hne a ha; simp; omega)) ?_
      rintro e w4 ⟨bb2, rfl, _, n'', hn'', hW4, A1'', A2'', c1x, c2x, hR4, hO4⟩
      have hX4 := (unhide HX).stepB hW4 hR4 hO4
      have HX4 := hide hX4
      have HGt3 := hide ((unhide HGt2).step o)
      clear hW4 hR4 hO4 q0 q1 q2 q3 q4 HIl hX4
      go_wp2_with fail
      go_roundg (m - (k + 1))
      case measure => omega
      case rel => exact ⟨k + 1, n', n'', A1'', A2'', c1x, c2x, s.step o, (t.step o).step o, by omega, by go_num, by omega, by omega, unhide HG2, (unhide HGt3).more (by omega), unhide HX4⟩
    · have g2 : decide (k < m) = false := by simp; omega
      have hkm : k = m := by omega
      have hr0 := (unhide HG).r0
      have hr1 : s.rd ≤ 60 := by have := (unhide HG).r1; omega
      clear hR hG hGt HGt
      go_wp2_with fail
      refine Calls.mono (open_any (unhide HR).a) ?_
      rintro e w3 ⟨rfl, hO3⟩
      have HX3 := hide ((unhide HR).quiet hO3)
      clear hO3
      go_wp2_with fail
      refine Calls.mono (round_any (unhide HX3).a) ?_
      rintro e w4 ⟨rfl, rfl⟩
      have HB3 := hide (unhide HX3).bl
      have HJ1 : Hid (IntsAt w3 L1 lc) := (unhide HI1).only0 (Only.of_below ⟨(unhide HB3).os, (unhide HB3).tape, (unhide HB3).output, (unhide HB3).size, (unhide HB3).block⟩ [])
      go_wp2_with fail
      with_reducible refine Calls.mono (start_any (c := p1) (round := s.rd + 1) (unhide HX3).a hr0 (by omega) (by omega) (unhide HJ1)) ?_
      rintro e w5 ⟨rfl, hW5, hO5⟩
      obtain ⟨x, hx⟩ : ∃ x, startRes s.M s.rd s.lo (s.rd + 1) lc = x := ⟨_, rfl⟩
      obtain ⟨ec, hec⟩ : ∃ ec, startCode s.rd (s.rd + 1) lc = ec := ⟨_, rfl⟩
      obtain ⟨y, hy⟩ : ∃ y, startRes s.M s.rd s.lo (s.rd + 1) (lc ++ mr) = y := ⟨_, rfl⟩
      obtain ⟨fc, hfc⟩ : ∃ fc, startCode s.rd (s.rd + 1) (lc ++ mr) = fc := ⟨_, rfl⟩
      obtain ⟨op, hop⟩ : ∃ op, leastOf (s.M.map (·.2)) = op := ⟨_, rfl⟩
      obtain ⟨r1, hr1'⟩ : ∃ r1, startRd s.rd (s.rd + 1) lc = r1 := ⟨_, rfl⟩
      obtain ⟨r2, hr2'⟩ : ∃ r2, startRd s.rd (s.rd + 1) (lc ++ mr) = r2 := ⟨_, rfl⟩
      have HP : Hid ((ec = 0 ∨ ec = 10) ∧ (fc = 0 ∨ fc = 10) ∧ (fc = 0 → ec = 0) ∧ (ec ≠ 0 → x = 0) ∧ (fc ≠ 0 → y = 0) ∧ (fc = 0 → y = mr.foldl min x) ∧ (ec = 0 → x ≤ op) ∧ (ec = 0 → fc = 0 → r1 = r2)) := by
        refine ⟨hec ▸ startCode_next _ _, hfc ▸ startCode_next _ _, fun h => ?_, fun h => ?_, fun h => ?_, fun h => ?_, fun h => ?_, fun h h' => ?_⟩
        · rw [← hec]; exact startCode_app (hfc.trans h)
        · rw [← hx]; exact startRes_bad (by rw [hec]; exact h)
        · rw [← hy]; exact startRes_bad (by rw [hfc]; exact h)
        · rw [← hy, ← hx]; exact startRes_app (hfc.trans h)
        · rw [← hx, ← hop]; exact startRes_open (hec.trans h)
        · rw [← hr1', ← hr2']; simp only [startRd]; rw [hec, hfc, if_pos h, if_pos h']
      rw [hx, hec, hop]
      rw [hr1'] at hW5
      have hX5 := (unhide HX3).stepA (s' := ⟨r1, startLo s.rd s.lo (s.rd + 1) lc, s.M⟩) (t' := t) hW5 ((unhide HX3).r.only hO5 (off2 (apart (unhide HX3).a (unhide HX3).r).1 (apart (unhide HX3).a (unhide HX3).r).2)) (hO5.mono (by intro i hi; simp at hi; simp; omega))
      have HX5 := hide hX5
      have HJ5 : Hid (IntsAt w5 L1 lc) := (unhide HI1).only0 (Only.of_below hX5.bl [])
      have HK5 : Hid (IntsAt w5 L2 mr) := (unhide HI2).only0 (Only.of_below hX5.bl [])
      generalize startLo s.rd s.lo (s.rd + 1) lc = lo1 at *
      have HY : Hid (startRes s.M s.rd s.lo (s.rd + 1) (lc ++ mr) = y ∧ startCode s.rd (s.rd + 1) (lc ++ mr) = fc ∧ startRd s.rd (s.rd + 1) (lc ++ mr) = r2) := ⟨hy, hfc, hr2'⟩
      clear hx hec hy hfc hop hr1' hr2' hW5 hO5 hX5 HJ1 HB3
      go_wp2_with (at_builtin; refine wpList_append_ints _ rfl (.tmp 84) (.tmp 85) 28 rfl w5.heap.size 3 i0 (.int .i64 0) 8 Try.underlying28 hi hz0 hz1 hz2 rfl _ _ _ rfl (World.ownsRow_nil _ _ _ _) L1 p1 lc rfl (unhide HJ5) ?c3 ?c4 ?c5 ?_)
      case c3 => unfold maxLen; omega
      case c4 => omega
      case c5 => exact Nat.le_refl _
      intro v1 w6 hown1 hgrow1
      obtain ⟨N1, d1', rfl⟩ := owns_form hown1
      have hO6 : Only [] w5 w6 := (Only.refl [] w5).grown_new (v := .slice none 0 0) hgrow1 (by simp [Value.ownBlock])
      have HK6 : Hid (IntsAt w6 L2 mr) := (unhide HK5).only0 hO6
      have HO6 := hide hO6
      have HN1 := hide hown1
      have hs6 := hO6.size
      clear hO6 hown1 hgrow1
      go_wp2_with (at_builtin; refine wpList_append_ints _ rfl (.tmp 87) (.tmp 88) 28 rfl w5.heap.size 3 i0 (.int .i64 0) 8 Try.underlying28 hi hz0 hz1 hz2 rfl _ _ _ rfl (unhide HN1) L2 p2 mr rfl (unhide HK6) ?c3 ?c4 ?c5 ?_)
      case c3 => unfold maxLen; omega
      case c4 => omega
      case c5 => omega
      intro v2 w7 hown2 hgrow2
      obtain ⟨N2, d2', rfl⟩ := owns_form hown2
      have hO7 : Only [] w5 w7 := (unhide HO6).grown_new hgrow2 (owned_ge (unhide HN1))
      have HX7 := hide ((unhide HX5).quiet hO7)
      have HN2 : Hid (OwnsI w7 w5.heap.size N2 d2' (lc ++ mr)) := by
        show OwnsI w7 w5.heap.size N2 d2' (lc ++ mr)
        unfold OwnsI
        simpa [List.length_append, List.map_append] using hown2
      have HL7 : Hid (∀ w', Below w.heap.size w w' → IntsAt w' L2 mr) := fun w' h => (unhide HI2).only0 (Only.of_below h [])
      clear hO7 hown2 hgrow2
      go_wp2_with fail
      refine Calls.mono (round_any (unhide HX7).b) ?_
      rintro e w8 ⟨rfl, rfl⟩
      have HC17 : Hid (Calls Try.prog 17 #[.pointer (some ⟨wb, 0, none⟩), .int .i64 (s.rd + 1), .slice N2 (lc.length + mr.length) d2'] w7 fun e w' => e = .returned (.tuple #[.int .i64 y, .int .i64 fc]) ∧ WAt w' wb mb nb r2 (startLo s.rd s.lo (s.rd + 1) (lc ++ mr)) s.M ∧ Only [wb, mb] w7 w') := by
        obtain ⟨e1, e2, e3⟩ := unhide HY
        have h' := start_any (c := d2') (round := s.rd + 1) (unhide HX7).b hr0 (by omega) (by simp; omega) (unhide HN2).ints
        rw [List.length_append, e1, e2, e3] at h'
        exact h'
      go_wp2_with fail
      with_reducible refine Calls.mono (unhide HC17) ?_
      rintro e w8 ⟨rfl, hW8, hO8⟩
      have hX8 := (unhide HX7).stepB (u' := ⟨r2, startLo s.rd s.lo (s.rd + 1) (lc ++ mr), s.M⟩) (t' := t) hW8 ((unhide HX7).r.only hO8 (off2 (apart (unhide HX7).b (unhide HX7).r).1 (apart (unhide HX7).b (unhide HX7).r).2)) (hO8.mono (by intro i hi; simp at hi; simp; omega))
      have HX8 := hide hX8
      clear hW8 hO8 hX8 HX7 HX5 HX3 HR HC17
      obtain ⟨p1', p2', p3', p4', p5', p6', p7', p8'⟩ := unhide HP
      by_cases hf : fc = 0
      · have he : ec = 0 := p3' hf
        subst hf
        subst he
        have HP6 : Hid (y = mr.foldl min x) := p6' rfl
        have hle : x ≤ op := p7' rfl
        have h12 : r1 = r2 := p8' rfl rfl
        subst h12
        have HJ8 := hide ((unhide HL7) _ (unhide HX8).bl)
        clear p1' p2' p3' p4' p5' p6' p7' p8' HP
        go_wp2_with fail
        go_loopg [18, 19] mr.length (fun g v i wz => ∃ j : Nat, j + g = mr.length ∧ i = .int .i64 j ∧ w8 = wz ∧ v = .int .i64 ((mr.take j).foldl min x))
        case atStart => exact ⟨0, by omega, rfl, rfl, rfl⟩
        case round =>
          obtain ⟨j, hjg, rfl, rfl, rfl⟩ := hrel
          by_cases hj : j < mr.length
          · obtain ⟨b, off, rfl, hlt2, hcc⟩ := (unhide HJ8) j hj
            generalize hx : mr[j]'hj = z at hcc
            have hsn : (mr.take (j + 1)).foldl min x = min ((mr.take j).foldl min x) z := by
              rw [List.take_succ_eq_append_getElem hj, List.foldl_append, hx]
              rfl
            have HSN := hide hsn
            generalize (mr.take j).foldl min x = acc at HSN ⊢
            clear hx hsn
            have g1 : decide (mr.length ≤ j) = false := by simp; omega
            have g2 : decide (j < mr.length) = true := by simp; omega
            go_wp2_with fail
            all_goals
              go_roundg (mr.length - (j + 1))
              case measure => omega
              case rel => exact ⟨j + 1, by omega, by go_num, rfl, by rw [unhide HSN]; first | rw [min_if] | (congr 1; omega)⟩
          · have g2 : decide (j < mr.length) = false := by simp; omega
            have hte : mr.take j = mr := List.take_of_length_le (by omega)
            rw [hte, ← unhide HP6]
            clear hte
            have f1 : (y == y) = true := by simp
            have f2 : decide (x ≤ op) = true := by simpa using hle
            have f3 : (r1 == r1) = true := by simp
            go_wp2_with (first | (go_at_call 16; first | (refine (round_any (unhide HX8).a).mono ?_; rintro e w9 ⟨rfl, rfl⟩) | (refine (round_any (unhide HX8).b).mono ?_; rintro e w9 ⟨rfl, rfl⟩)) | (go_at_call 11; refine (awake_any _).mono ?_; rintro e w9 ⟨rfl, hb9⟩; have HB9 := hide hb9; clear hb9))
            go_ret
            exact ⟨rfl, (unhide HX8).bl.trans ((unhide HB9).mono (unhide HX8).bl.size)⟩
      · have hf' : fc = 10 := by rcases p2' with h | h; exact absurd h hf; exact h
        subst hf'
        have hy0 : y = 0 := p5' (by omega)
        subst hy0
        rcases p1' with rfl | rfl
        · clear p2' p3' p4' p5' p6' p7' p8' HP
          go_wp2_with (go_at_call 11; refine (awake_any _).mono ?_; rintro e w9 ⟨rfl, hb9⟩; have HB9 := hide hb9; clear hb9)
          go_ret
          exact ⟨rfl, (unhide HX8).bl.trans ((unhide HB9).mono (unhide HX8).bl.size)⟩
        · have hx0 : x = 0 := p4' (by omega)
          subst hx0
          clear p2' p3' p4' p5' p6' p7' p8' HP
          go_wp2_with (go_at_call 11; refine (awake_any _).mono ?_; rintro e w9 ⟨rfl, hb9⟩; have HB9 := hide hb9; clear hb9)
          go_ret
          exact ⟨rfl, (unhide HX8).bl.trans ((unhide HB9).mono (unhide HX8).bl.size)⟩
end Go.Proofs.Ytdommbaljchofaa
