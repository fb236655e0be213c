/-
  The contract of the reference's Acked: a message that is taken off.
-/
import Derived.Test.YtdommbaljchofaaR6
namespace Go.Proofs.Ytdommbaljchofaa
open Go.RowKit Go.Deep
set_option linter.unusedVariables false

section
variable {w : World} {B wb : Nat} {A1 A2 : Option Addr} {c1 c2 : Nat} {rd lo no mark : Int} {M : List (Int × Int)}
theorem RAt.lowered (h : RAt w B wb A1 A2 c1 c2 rd lo M) (lo' : Int) : RAt (w.setCell ⟨wb, 3, none⟩ (.int .i64 lo')) B wb A1 A2 c1 c2 rd lo' M := by
  have n1 : (Value.slice A1 (M.map (·.1)).length c1).ownBlock ≠ some wb := fun e => owns_row_ne h.no h.hd (by decide) wb e rfl
  have n2 : (Value.slice A2 (M.map (·.2)).length c2).ownBlock ≠ some wb := fun e => owns_row_ne h.at_ h.hd (by decide) wb e rfl
  refine ⟨(h.hd.set 3 _).congr fun o ho' => ?_, own_far h.no n1 _, own_far h.at_ n2 _, h.ne⟩
  simp only [rwF]
  rcases (show o = 0 ∨ o = 1 ∨ o = 2 ∨ o = 3 by omega) with rfl | rfl | rfl | rfl <;> rfl

theorem RAt.drew (h : RAt w B wb A1 A2 c1 c2 rd lo M) : RAt w.drew B wb A1 A2 c1 c2 rd lo M := h.only0 ((Only.refl _ _).drew)

set_option maxHeartbeats 4000000 in
set_option maxRecDepth 100000 in
theorem racked_ok (h : RAt w B wb A1 A2 c1 c2 rd lo M) (hB : B ≤ w.heap.size) (hM : M.length ≤ 1000) (hnd : M.Pairwise (fun a b => a.1 ≠ b.1)) (hc : ackedCode M rd no mark = 0) (h0 : 0 ≤ rd) (hr : rd ≤ 1000000) {lo' : Int} (hlo : (if rd < mark then min lo (valOf M no) else lo) = lo') :
    Calls Try.prog 35 #[.pointer (some ⟨wb, 0, none⟩), .int .i64 no, .int .i64 mark] w fun e w' => e = .returned (.int .i64 0) ∧ ∃ A1' A2' c1' c2', RAt w' B wb A1' A2' c1' c2' rd lo' (M.filter (fun p => p.1 != no)) ∧ Only [wb] w w' := by
  obtain ⟨i0, hi, hz0, hz1, hz2⟩ := info_parts Try.info3'
  have h1 : M.any (fun p => p.1 == no) = true := by
    by_cases h1 : M.any (fun p => p.1 == no) = true
    · exact h1
    · simp [ackedCode, h1] at hc
  have h23 : ¬ (mark < 0 ∨ rd + 1 < mark) := by
    intro h23
    simp only [ackedCode] at hc
    rw [if_pos h1, if_pos h23] at hc
    omega
  have h2 : ¬ mark < 0 := fun e => h23 (.inl e)
  have h3 : ¬ rd + 1 < mark := fun e => h23 (.inr e)
  have HM := hide (any_mem.1 h1)
  have HND := hide hnd
  have HLO := hide hlo
  have H := hide h
  have k2 := h.k2
  have k3 := h.k3
  have z3 := h.z 3
  have hlt := h.lt
  clear hc h h1 hnd hlo h23
  go_enter Try.func35, Try.ntmps35
  go_wp2_with fail
  refine (place_any (unhide H).kno (unhide H).lt (unhide H).no.ints (by simp; omega)).mono ?_
  rintro e w' ⟨⟨r, rfl, hr⟩, rfl⟩
  rcases hr with ⟨rfl, hr⟩ | ⟨j, hj, rfl, hr⟩
  · exact absurd (unhide HM) hr
  have hj' : j < M.length := by simpa using hj
  have HJ : Hid ((M[j]'hj').1 = no) := by show (M[j]'hj').1 = no; rw [← hr]; simp
  have HV : Hid (valOf M no = (M[j]'hj').2) := by
    refine valOf_eq (unhide HND) ?_
    rw [← unhide HJ]
    exact List.getElem_mem hj'
  clear hr hj
  go_upto_if 32 with fail
  go_cut [6] (fun e6 wc => RAt wc B wb A1 A2 c1 c2 rd lo' M ∧ Only [wb] w wc)
  case first =>
    by_cases h4 : rd < mark
    · obtain ⟨b, off, rfl, hlt2, hcc⟩ := (unhide H).at_.ints j (by simpa using hj')
      have kat := (unhide H).kat
      have hx : (M.map (·.2))[j]'(by simpa using hj') = (M[j]'hj').2 := by simp
      rw [hx] at hcc
      clear hx
      have HLO2 : Hid (min lo ((M[j]'hj').2) = lo') := by
        show min lo ((M[j]'hj').2) = lo'
        rw [← unhide HV, ← unhide HLO, if_pos h4]
      simp only [List.length_map] at kat
      generalize (M[j]'hj').2 = vv at *
      have g1 : decide (M.length ≤ j) = false := by simp; omega
      have g2 : decide (j < M.length) = true := by simp; omega
      go_wp2_with fail
      go_region
      all_goals go_wp2_with fail
      all_goals
        go_meet
        have e := unhide HLO2
        first
        | (have hv : vv = lo' := by omega
           rw [hv]
           exact ⟨((unhide H).lowered lo').drew, ((Only.refl _ _).setIn (by simp) _).drew⟩)
        | (have hv : lo = lo' := by omega
           rw [hv]
           exact ⟨((unhide H).lowered lo').drew, ((Only.refl _ _).setIn (by simp) _).drew⟩)
    · go_wp2_with fail
      go_meet
      rw [← unhide HLO, if_neg (by omega)]
      exact ⟨unhide H, Only.refl _ _⟩
  case rest =>
    obtain ⟨hR, hO⟩ := hcut
    have hwlt := hR.lt
    have HBW : Hid (B ≤ wc.heap.size) := Nat.le_trans hB hO.size
    have HR := hide hR
    have HO := hide hO
    clear hR hO k2 k3 z3 hlt
    have k0 := (unhide HR).k0
    have k1 := (unhide HR).k1
    go_wp2_with fail
    go_loopg [8, 9, 10] M.length (fun g v8 v9 v10 wr => ∃ (k : Nat) (N1 N2 : Option Addr) (d1 d2 : Nat), k + g = M.length ∧ v10 = .int .i64 k ∧ v8 = .slice N1 (keep M j k).length d1 ∧ v9 = .slice N2 (keep M j k).length d2 ∧ Only [] wc wr ∧ OwnsI wr wc.heap.size N1 d1 ((keep M j k).map (·.1)) ∧ OwnsI wr wc.heap.size N2 d2 ((keep M j k).map (·.2)) ∧ (∀ g, (Value.slice N1 (keep M j k).length d1).ownBlock = some g → (Value.slice N2 (keep M j k).length d2).ownBlock ≠ some g))
    case atStart => exact ⟨0, none, none, 0, 0, by omega, rfl, by simp [keep_zero], by simp [keep_zero], Only.refl _ _, by simpa [keep_zero] using OwnsI.nil _ _, by simpa [keep_zero] using OwnsI.nil _ _, by simp [Value.ownBlock]⟩
    case round =>
      obtain ⟨k, N1, N2, d1, d2, hkg, rfl, rfl, rfl, hO, hN1, hN2, hne⟩ := hrel
      have HRr : Hid (RAt wr B wb A1 A2 c1 c2 rd lo' M) := (unhide HR).only0 hO
      have HOr := hide hO
      have HN1 := hide hN1
      have HN2 := hide hN2
      have HNE := hide hne
      have hsz := hO.size
      clear hO hN1 hN2 hne k0 k1
      have k0 := (unhide HRr).k0
      have k1 := (unhide HRr).k1
      have z0 := (unhide HRr).z 0
      have z1 := (unhide HRr).z 1
      have hlt := (unhide HRr).lt
      by_cases hk : k < M.length
      · have g1 : decide (M.length ≤ k) = false := by simp; omega
        have g2 : decide (k < M.length) = true := by simp; omega
        by_cases hkj : k = j
        · subst hkj
          have g3 : ((k : Int) != (k : Int)) = false := by simp
          go_wp2_with fail
          go_roundg (M.length - (k + 1))
          case measure => omega
          case rel =>
            refine ⟨k + 1, N1, N2, d1, d2, by omega, by go_num, ?_, ?_, unhide HOr, ?_, ?_, ?_⟩
            · rw [keep_same hk rfl]
            · rw [keep_same hk rfl]
            · rw [keep_same hk rfl]; exact unhide HN1
            · rw [keep_same hk rfl]; exact unhide HN2
            · rw [keep_same hk rfl]; exact unhide HNE
        · have g3 : ((k : Int) != (j : Int)) = true := by simp; omega
          have hkl : (keep M j k).length ≤ 1000 := Nat.le_trans keep_len hM
          obtain ⟨b1, o1, rfl, hb1, hc1⟩ := (unhide HRr).no.ints k (by simpa using hk)
          obtain ⟨b2, o2, rfl, hb2, hc2⟩ := (unhide HRr).at_.ints k (by simpa using hk)
          rw [show (M.map (·.1))[k]'(by simpa using hk) = (M[k]'hk).1 by simp] at hc1
          rw [show (M.map (·.2))[k]'(by simpa using hk) = (M[k]'hk).2 by simp] at hc2
          have hkn := keep_next hk hkj
          obtain ⟨pk, hpk⟩ : ∃ pk, M[k]'hk = pk := ⟨_, rfl⟩
          rw [hpk] at hc1 hc2 hkn
          obtain ⟨pn, pa⟩ := pk
          simp only at hc1 hc2
          have HKN := hide hkn
          have HPK := hide hpk
          clear hkn hpk
          have hN1 := unhide HN1
          have hN2 := unhide HN2
          unfold OwnsI at hN1 hN2
          simp only [List.length_map, List.map_map] at hN1 hN2
          have HW1 := hide hN1
          have HW2 := hide hN2
          clear hN1 hN2
          go_wp2_with (at_builtin; refine wpList_append_own_at _ rfl (.tmp 60) (.tmp 68) 28 rfl wc.heap.size 3 i0 (.int .i64 0) 1 8 Try.underlying28 hi hz0 hz1 hz2 rfl (by decide) _ _ _ rfl ((unhide HW1).alloc _) ⟨wr.heap.size, 0, none⟩ 1 1 [.int .i64 pn] rfl rfl ?c1 ?c2 ?c3 ?c4 ?c5 ?_)
          case c1 => exact new_cells _ #[.int .i64 pn] 3 _ rfl
          case c2 => intro u hu; simp at hu; rw [hu]; rfl
          case c3 => unfold maxLen; omega
          case c4 => omega
          case c5 => simp; omega
          intro v1 w3 hown1 hgrow1 _ hloc1
          obtain ⟨N1', d1', rfl⟩ := owns_form hown1
          have hO3 : Only [] wc w3 := ((unhide HOr).alloc _).grown_new hgrow1 (owned_ge (unhide HW1))
          have hR3 : RAt w3 B wb (some ⟨b1, o1, none⟩) (some ⟨b2, o2, none⟩) c1 c2 rd lo' M := (unhide HR).only0 hO3
          have ho3 := (only_grown hgrow1).owns ((unhide HW2).alloc _) (fun b hb hb2 => (unhide HNE) b (by simpa using hb2) hb)
          have hne3 : ∀ g, (Value.slice N1' ((keep M j k).length + 1) d1').ownBlock = some g → (Value.slice N2 (keep M j k).length d2).ownBlock ≠ some g := by
            intro g hg hg2
            rcases hloc1 with e | e
            · exact (unhide HNE) g (by rw [← e]; exact hg) hg2
            · have := owned_lt (unhide HW2) g hg2
              rw [e] at hg
              injection hg with hg
              omega
          obtain ⟨_, _, e2, hb2', hc2'⟩ := hR3.at_.ints k (by simpa using hk)
          rw [show (M.map (·.2))[k]'(by simpa using hk) = pa by simp [unhide HPK]] at hc2'
          cases e2
          have q1 := hR3.k1
          have hlt3 := hR3.lt
          have hsz3 := hO3.size
          have HO3 := hide hO3
          have HR3 := hide hR3
          have HN3 := hide hown1
          have HM3 := hide ho3
          have HNE3 := hide hne3
          clear hO3 hR3 hown1 ho3 hne3 hgrow1 hloc1 k0 k1 z0 z1 hc1 hc2
          go_wp2_with (at_builtin; refine wpList_append_own_at _ rfl (.tmp 70) (.tmp 78) 28 rfl wc.heap.size 3 i0 (.int .i64 0) 1 8 Try.underlying28 hi hz0 hz1 hz2 rfl (by decide) _ _ _ rfl ((unhide HM3).alloc _) ⟨w3.heap.size, 0, none⟩ 1 1 [.int .i64 pa] rfl rfl ?c1 ?c2 ?c3 ?c4 ?c5 ?_)
          case c1 => exact new_cells _ #[.int .i64 pa] 3 _ rfl
          case c2 => intro u hu; simp at hu; rw [hu]; rfl
          case c3 => unfold maxLen; omega
          case c4 => omega
          case c5 => simp; omega
          intro v2 w5 hown2 hgrow2 _ hloc2
          obtain ⟨N2', d2', rfl⟩ := owns_form hown2
          have hO5 : Only [] wc w5 := ((unhide HO3).alloc _).grown_new hgrow2 (owned_ge (unhide HM3))
          have hn5 := (only_grown hgrow2).owns ((unhide HN3).alloc _) (fun b hb hb2 => (unhide HNE3) b hb (by simpa using hb2))
          have hne5 : ∀ g, (Value.slice N1' ((keep M j k).length + 1) d1').ownBlock = some g → (Value.slice N2' ((keep M j k).length + 1) d2').ownBlock ≠ some g := by
            intro g hg hg2
            rcases hloc2 with e | e
            · exact (unhide HNE3) g hg (by rw [← e]; exact hg2)
            · have := owned_lt (unhide HN3) g hg
              rw [e] at hg2
              injection hg2 with hg2
              omega
          have HO5 := hide hO5
          have HN5 := hide hn5
          have HM5 := hide hown2
          have HNE5 := hide hne5
          clear hO5 hn5 hown2 hne5 hgrow2 hloc2 q1 hc2'
          go_wp2_with fail
          go_roundg (M.length - (k + 1))
          case measure => omega
          case rel =>
            refine ⟨k + 1, N1', N2', d1', d2', by omega, by go_num, ?_, ?_, unhide HO5, ?_, ?_, ?_⟩
            · rw [unhide HKN]; simp
            · rw [unhide HKN]; simp
            · rw [unhide HKN]; unfold OwnsI; simpa [Function.comp_def] using unhide HN5
            · rw [unhide HKN]; unfold OwnsI; simpa [Function.comp_def] using unhide HM5
            · rw [unhide HKN]; simpa using unhide HNE5
      · have g2 : decide (k < M.length) = false := by simp; omega
        have hkM : k = M.length := by omega
        subst hkM
        have hwf1 : (Value.slice N1 (keep M j M.length).length d1).ownBlock ≠ some wb := fun e => by
          have := owned_ge (unhide HN1) wb (by simpa using e)
          omega
        have hwf2 : (Value.slice N2 (keep M j M.length).length d2).ownBlock ≠ some wb := fun e => by
          have := owned_ge (unhide HN2) wb (by simpa using e)
          omega
        have HF1 := hide hwf1
        have HF2 := hide hwf2
        clear hwf1 hwf2
        go_wp2_with fail
        go_ret
        have hall := keep_all hj' (unhide HND)
        rw [unhide HJ] at hall
        have h5 := unhide HN1
        have h6 := unhide HN2
        have h7 := unhide HNE
        have h8 := unhide HF1
        have h9 := unhide HF2
        rw [hall] at h5 h6 h7 h8 h9 ⊢
        refine ⟨rfl, N1, N2, d1, d2, ⟨?_, ?_, ?_, h7⟩, (((unhide HO).trans ((unhide HOr).mono (by simp))).setIn (by simp) _).setIn (by simp) _⟩
        · refine (((unhide HRr).hd.set 0 _).set 1 _).congr fun o ho' => ?_
          simp only [rwF]
          rcases (show o = 0 ∨ o = 1 ∨ o = 2 ∨ o = 3 by omega) with rfl | rfl | rfl | rfl <;> rfl
        · exact own_far (own_far (h5.weaken (unhide HBW)) (by simpa using h8) _) (by simpa using h8) _
        · exact own_far (own_far (h6.weaken (unhide HBW)) (by simpa using h9) _) (by simpa using h9) _
end
end Go.Proofs.Ytdommbaljchofaa
