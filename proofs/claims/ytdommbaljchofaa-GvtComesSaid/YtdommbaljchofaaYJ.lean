/-
  The statements' world: a pick and what comes, in memory and in the whole plain law.
-/
import Derived.Test.YtdommbaljchofaaYF
import Derived.Test.YtdommbaljchofaaYI
namespace Go.Proofs.Ytdommbaljchofaa
open Go.RowKit Go.Deep
set_option linter.unusedVariables false
section
variable {W w : World} {xb : Nat} {x : XS}
/-- The sending, no program in sight. -/
theorem SD.inv2' {P : PS} {i : Nat} {s : WS} {t : Int} (hn : 1 ≤ P.n) (hw : P.ws[i]? = some s) : ∀ (later : List Int) (q : SD),
    Inv2 { P with ws := P.ws.set i ⟨s.rd, s.lo, q.M⟩, l := q.l, sent := q.sent } →
    Inv2 { P with ws := P.ws.set i ⟨s.rd, s.lo, (later.foldl (SD.send P.n i t) q).M⟩, l := (later.foldl (SD.send P.n i t) q).l, sent := (later.foldl (SD.send P.n i t) q).sent } := by
  intro later
  induction later with
  | nil => intro q h; exact h
  | cons d later ih =>
    intro q h
    rw [List.foldl_cons]
    refine ih _ ?_
    by_cases hs : d < 0 ∨ 1000 < d ∨ 1073741824 < t + d
    · rw [show SD.send P.n i t q d = q from if_pos hs]
      exact h
    · rw [show SD.send P.n i t q d = ⟨q.M ++ [(q.sent, t + d)], q.l ++ [⟨0, i, ((i : Int) + d) % (P.n : Int), q.sent, t + d⟩], q.sent + 1⟩ from if_neg hs]
      have hm0 := Int.emod_nonneg ((i : Int) + d) (show (P.n : Int) ≠ 0 by omega)
      obtain ⟨e, he⟩ : ∃ e : Nat, ((i : Int) + d) % (P.n : Int) = (e : Int) := ⟨(((i : Int) + d) % (P.n : Int)).toNat, by omega⟩
      rw [he]
      have h' := h.send (i := i) (d := e) (s := ⟨s.rd, s.lo, q.M⟩) (u := t + d) ((set_get hw).2 (.inl ⟨rfl, rfl⟩))
      simpa [List.set_set] using h'
theorem begin_full {N : Nat} (hN : N ≤ 90000) (h : XAt W w xb x) (hi : Inv x.ps) (h2 : Inv2 x.ps) (hs : Sz x N) :
    Calls Try.prog 25 #[.pointer (some ⟨xb, 0, none⟩)] w fun e w' => e = .returned (.tuple #[]) ∧ ∃ x', XAt W w' xb x' ∧ Inv x'.ps ∧ Inv2 x'.ps ∧ Sz x' (N + 8) ∧ (x.l = [] → todo x'.l ≤ 16 ∧ Calm x'.ps) := by
  cases hr : x.run with
  | true =>
    refine (begins_run h hr).mono ?_
    rintro e w' ⟨rfl, rfl⟩
    refine ⟨rfl, x, h, hi, h2, hs.more (by omega), fun hl => ?_⟩
    have := (hi.still h2 hl).1
    simp only [XS.ps] at this
    rw [this] at hr
    cases hr
  | false =>
    have hkl := hi.kl
    have h8 := hi.n8
    simp only [XS.ps] at h8
    refine (begins_ok h hr h8 (by omega) hi.r0 (by have := hs.rd; omega) (by have := hs.l; omega)).mono ?_
    rintro e w' ⟨rfl, tb', lv', lc', hX⟩
    refine ⟨rfl, _, hX, ?_, ?_, ?_, fun hl => ⟨?_, ?_⟩⟩
    · have h' := hi.begin (by simpa [XS.ps] using hr)
      simpa [XS.ps] using h'
    · have h' := Inv2.begin hi h2 (by simpa [XS.ps] using hr)
      simpa [XS.ps] using h'
    · exact ⟨by have := hs.l; simp [starts]; omega, fun k hk => by have := hs.nn k hk; omega, fun o ho => by have := hs.o o ho; omega, by have := hs.sent; simp only; omega, by have := hs.rd; simp only; omega⟩
    · have h1 := todo_le (x.l ++ starts x.K.length (x.rd + 1))
      rw [hl] at h1 ⊢
      simp [starts] at h1
      simp only [List.nil_append, starts]
      omega
    · have h' := Calm.begin (P := x.ps) hl (hi.still h2 hl).2
      simpa [XS.ps] using h'

theorem work_full {N i c : Nat} {which : Int} {A3 : Option Addr} {later : List Int} (hN : N ≤ 90000) (h : XAt W w xb x) (hi : Inv x.ps) (h2 : Inv2 x.ps) (hs : Sz x N) (hil : i < x.K.length) (hI : IntsAt W A3 later) (hlat : later.length ≤ 5) :
    Calls Try.prog 41 #[.pointer (some ⟨xb, 0, none⟩), .int .i64 i, .int .i64 which, .slice A3 later.length c] w fun e w' => e = .returned (.tuple #[]) ∧ ∃ x', XAt W w' xb x' ∧ Inv x'.ps ∧ Inv2 x'.ps ∧ Sz x' (N + 8) := by
  have hkl := hi.kl
  have hol := hi.ol
  have h8 := hi.n8
  simp only [XS.ps] at h8
  obtain ⟨k, hk⟩ := some_of_lt hil
  obtain ⟨o, ho⟩ := some_of_lt (l := x.O) (i := i) (by omega)
  by_cases hne : o.L = []
  · refine (work_none h ho hne).mono ?_
    rintro e w' ⟨rfl, rfl⟩
    exact ⟨rfl, x, h, hi, h2, hs.more (by omega)⟩
  · have hq : (SD.mk k.s.M x.l x.sent).Ok 0 (N : Int) := ⟨fun p hp => (hi.mt i k.s p (ps_w hk) hp).2.1, hi.s0, by have := hs.sent; simp only; omega, by have := hs.l; simp only; omega⟩
    have hq' : (SD.mk k.s.M x.l x.sent).Ok 0 100000 := ⟨hq.fr, hq.s0, by have := hq.s1; omega, by have := hq.ll; omega⟩
    refine (work_any h hk ho hI hne (by have := hs.o o (List.mem_of_getElem? ho); omega) (fun t ht => hi.opt i o.L t (ps_o ho) ht) (by omega) (by omega) hq' (by have := hs.nn k (List.mem_of_getElem? hk); omega)).mono ?_
    rintro e w' ⟨rfl, nn', lv', lc', A', c', j, t, htj, hnn, hX⟩
    have hall := hq.all (n := x.K.length) (i := i) (t := t) later
    refine ⟨rfl, _, hX, ?_, ?_, ?_⟩
    · have h1 := SD.inv (P := x.ps) (ps_w hk) (ps_o ho) (List.mem_of_getElem? htj) later ⟨k.s.M, x.l, x.sent⟩ (by
        have e : (⟨k.s.rd, k.s.lo, k.s.M⟩ : WS) = k.s := rfl
        rw [e]
        have e2 : x.ps.ws.set i k.s = x.ps.ws := by
          obtain ⟨_, h2⟩ := List.getElem?_eq_some_iff.1 (ps_w hk)
          rw [← h2]
          exact List.set_getElem_self _
        rw [e2]
        exact hi)
      have h2 := h1.drop (i := i) (L := o.L) (L' := o.L.eraseIdx j) (ps_o ho) (fun u hu => List.mem_of_mem_eraseIdx hu)
      rw [hkl]
      simpa [XS.ps, workX, List.map_set] using h2
    · have h1 := SD.inv2' (P := x.ps) (t := t) hi.n1 (ps_w hk) later ⟨k.s.M, x.l, x.sent⟩ (by
        have e : (⟨k.s.rd, k.s.lo, k.s.M⟩ : WS) = k.s := rfl
        rw [e]
        have e2 : x.ps.ws.set i k.s = x.ps.ws := by
          obtain ⟨_, h2⟩ := List.getElem?_eq_some_iff.1 (ps_w hk)
          rw [← h2]
          exact List.set_getElem_self _
        rw [e2]
        exact h2)
      have h3 := h1.drop (x.ps.op.set i (o.L.eraseIdx j))
      rw [hkl]
      simpa [XS.ps, workX, List.map_set] using h3
    · have a1 := hall.s1
      have a2 := hall.ll
      refine ⟨by simp only [workX]; omega, fun q hq => ?_, fun q hq => ?_, by simp only [workX]; omega, by have := hs.rd; simp only [workX]; omega⟩
      · simp only [workX] at hq
        rcases mem_set_iff hq with rfl | ⟨j', _, hj'⟩
        · have := hs.nn k (List.mem_of_getElem? hk)
          simp only; omega
        · have := hs.nn q (List.mem_of_getElem? hj')
          omega
      · rcases mem_set_iff hq with rfl | ⟨j', _, hj'⟩
        · have h1 := hs.o o (List.mem_of_getElem? ho)
          have h2 := List.length_eraseIdx_le o.L j
          simp only; omega
        · have := hs.o q (List.mem_of_getElem? hj')
          omega
theorem comes_full {N : Nat} {which : Int} (hN : N ≤ 90000) (h : XAt W w xb x) (hi : Inv x.ps) (h2 : Inv2 x.ps) (hs : Sz x N) :
    Calls Try.prog 23 #[.pointer (some ⟨xb, 0, none⟩), .int .i64 which] w fun e w' => e = .returned (.tuple #[]) ∧ ∃ x', XAt W w' xb x' ∧ Inv x'.ps ∧ Inv2 x'.ps ∧ Sz x' (N + 1) ∧ (x.l ≠ [] → todo x'.l + 1 ≤ todo x.l) ∧ (x.l = [] → x'.l = []) ∧ (Calm x.ps → Calm x'.ps) := by
  by_cases hl : x.l = []
  · refine (comes_none h hl).mono ?_
    rintro e w' ⟨rfl, rfl⟩
    exact ⟨rfl, x, h, hi, h2, hs.more (by omega), fun e => absurd hl e, fun e => e, fun e => e⟩
  have hkl := hi.kl
  have hol := hi.ol
  have h8 := hi.n8
  simp only [XS.ps] at h8
  have hsl := hs.l
  obtain ⟨i, hil, ei⟩ := modIdx (List.length_pos_iff.2 hl) (by omega) which
  obtain ⟨p, hp⟩ := some_of_lt hil
  have hpm : p ∈ x.l := List.mem_of_getElem? hp
  have hip : Inv { x.ps with l := p :: x.l.eraseIdx i } := hi.perm (erase_perm hp)
  have hel := erase_len hp
  have h2p : Inv2 { x.ps with l := p :: x.l.eraseIdx i } := h2.perm (erase_perm hp)
  have htd : todo x.l = rank p + todo (x.l.eraseIdx i) := by rw [todo_perm (erase_perm hp), todo_cons]
  have hcp : Calm x.ps → Calm { x.ps with l := p :: x.l.eraseIdx i } := fun hc => hc.perm (erase_perm hp)
  rcases hi.kinds p hpm with hk | hk | hk | hk
  · obtain ⟨f, d, s, hf, hd, hdn, hfs, hM, _, _⟩ := hi.msg p hpm hk
    simp only [XS.ps] at hdn
    obtain ⟨k, hkk⟩ := some_of_lt (l := x.K) (i := d) (by omega)
    obtain ⟨o, hoo⟩ := some_of_lt (l := x.O) (i := d) (by omega)
    refine (comes_msg h hil hp (by omega) ei hk hd hkk hoo (by have := hs.o o (List.mem_of_getElem? hoo); omega)).mono ?_
    rintro e w' ⟨rfl, lv', lc', A', c', hX⟩
    refine ⟨rfl, _, hX, ?_, ?_, ?_, fun _ => ?_, fun e => absurd e hl, fun hc => ?_⟩
    · have h' := hip.recv hk hd (ps_w hkk) (ps_o hoo)
      simpa [XS.ps, List.map_set] using h'
    · have h' := Inv2.recv (d := d) (k := k.s) (O := x.ps.op.set d (o.L ++ [p.tm])) hip h2p hk
      simpa [XS.ps, List.map_set] using h'
    · refine ⟨by simp; omega, fun q hq => by have := hs.nn q hq; omega, fun q hq => ?_, by have := hs.sent; simp only; omega, by have := hs.rd; simp only; omega⟩
      rcases mem_set_iff hq with rfl | ⟨j', _, hj'⟩
      · have := hs.o o (List.mem_of_getElem? hoo)
        simp; omega
      · have := hs.o q (List.mem_of_getElem? hj')
        omega
    · simp only [todo_snoc]
      have e1 : rank p = 2 := by simp [rank, hk]
      have e2 : rank ⟨1, (d : Int), p.fr, p.no, k.s.rd⟩ = 1 := by simp [rank]
      omega
    · have := hc.kinds p hpm
      omega
  · obtain ⟨d, s, a, hd, hds, hM, _, _⟩ := hi.ack p hpm hk
    obtain ⟨k, hkk, rfl⟩ := ps_k hds
    have hmt := hi.mt d k.s _ hds hM
    have hsent := hs.sent
    simp only [XS.ps] at hmt
    refine (comes_ack h hil hp (by omega) ei hk hd hkk (hi.ackCode hpm hk hd (ps_w hkk)) ⟨by have := hmt.1; omega, by have := hmt.2.1; omega⟩ (hi.rdj d k.s hds).1 (by
      have h1 := (hi.rdj d k.s hds).2
      have h2 := hs.rd
      simp only [XS.ps] at h1
      rcases h1 with e | ⟨_, e⟩ <;> omega) (by omega)).mono ?_
    rintro e w' ⟨rfl, lv', lc', hX⟩
    refine ⟨rfl, _, hX, ?_, ?_, ?_, fun _ => ?_, fun e => absurd e hl, fun hc => ?_⟩
    · have h' := hip.acked hk hd (ps_w hkk)
      simpa [XS.ps, List.map_set] using h'
    · have h' := Inv2.acked hip h2p hk hd (ps_w hkk)
      simpa [XS.ps, List.map_set] using h'
    · refine ⟨by simp only; omega, fun q hq => ?_, fun q hq => by have := hs.o q hq; omega, by simp only; omega, by have := hs.rd; simp only; omega⟩
      rcases mem_set_iff hq with rfl | ⟨j', _, hj'⟩
      · have := hs.nn k (List.mem_of_getElem? hkk)
        simp only; omega
      · have := hs.nn q (List.mem_of_getElem? hj')
        omega
    · have e1 : rank p = 1 := by simp [rank, hk]
      simp only
      omega
    · have := hc.kinds p hpm
      omega
  · obtain ⟨_, _, d, s, hd, hds, _, _⟩ := hi.st p hpm hk
    obtain ⟨k, hkk, rfl⟩ := ps_k hds
    have hlt := (List.getElem?_eq_some_iff.1 hkk).1
    obtain ⟨o, hoo⟩ := some_of_lt (l := x.O) (i := d) (by omega)
    refine (comes_start h hil hp (by omega) ei hk hd hkk hoo (hi.startCode hpm hk hd (ps_w hkk) (ps_o hoo)) (hi.rdj d k.s hds).1 (by
      have h1 := (hi.rdj d k.s hds).2
      have h2 := hs.rd
      simp only [XS.ps] at h1
      rcases h1 with e | ⟨_, e⟩ <;> omega) (by have := hs.o o (List.mem_of_getElem? hoo); omega)).mono ?_
    rintro e w' ⟨rfl, lv', lc', hX⟩
    refine ⟨rfl, _, hX, ?_, ?_, ?_, fun _ => ?_, fun e => absurd e hl, fun hc => ?_⟩
    · have h' := hip.started hk hd (ps_w hkk) (ps_o hoo)
      simpa [XS.ps, List.map_set] using h'
    · have h' := Inv2.started (v := ⟨3, (d : Int), 0, p.no, startRes k.s.M k.s.rd k.s.lo p.no o.L⟩) hip h2p hk hd (ps_w hkk) (ps_o hoo)
      simpa [XS.ps, List.map_set] using h'
    · refine ⟨by simp; omega, fun q hq => ?_, fun q hq => by have := hs.o q hq; omega, by have := hs.sent; simp only; omega, by have := hs.rd; simp only; omega⟩
      rcases mem_set_iff hq with rfl | ⟨j', _, hj'⟩
      · have := hs.nn k (List.mem_of_getElem? hkk)
        simp only; omega
      · have := hs.nn q (List.mem_of_getElem? hj')
        omega
    · simp only [todo_snoc]
      have e1 : rank p = 2 := by simp [rank, hk]
      have e2 : rank ⟨3, (d : Int), 0, p.no, startRes k.s.M k.s.rd k.s.lo p.no o.L⟩ = 1 := by simp [rank]
      omega
    · have h' := (hcp hc).started hip hk hd (ps_w hkk) (ps_o hoo)
      simpa [XS.ps, List.map_set] using h'
  · obtain ⟨d, hfr, hno, hrun, hdn, htm, htold⟩ := hi.repFacts hpm hk
    simp only [XS.ps] at hno hrun hdn htold
    refine (comes_report h hil hp (by omega) ei hk hfr hno hrun (by omega) hdn htm htold rfl rfl rfl rfl).mono ?_
    rintro e w' ⟨rfl, lv', lc', hX⟩
    refine ⟨rfl, _, hX, ?_, ?_, ?_, fun _ => ?_, fun e => absurd e hl, fun hc => ?_⟩
    · have h' := hip.reported hk hfr
      cases hb : allTold x.n (toldUp x.told d) with
      | true =>
        simp only [XS.ps, hb] at h' ⊢
        simpa using h'
      | false =>
        simp only [XS.ps, hb] at h' ⊢
        simpa using h'
    · exact Inv2.reported h2p hk
    · exact ⟨by simp only; omega, fun q hq => by have := hs.nn q hq; omega, fun q hq => by have := hs.o q hq; omega, by have := hs.sent; simp only; omega, by have := hs.rd; simp only; omega⟩
    · have e1 : rank p = 1 := by simp [rank, hk]
      simp only
      omega
    · have h' := (hcp hc).reported hip hk hfr
      cases hb : allTold x.n (toldUp x.told d) with
      | true =>
        simp only [XS.ps, hb] at h' ⊢
        simpa using h'
      | false =>
        simp only [XS.ps, hb] at h' ⊢
        simpa using h'

theorem step_full {N c : Nat} {B : Option Addr} {o : PickV} (hN : N ≤ 90000) (h : XAt W w xb x) (hi : Inv x.ps) (h2 : Inv2 x.ps) (hs : Sz x N) (hI : IntsAt W B o.l) (hl : o.l.length ≤ 5) :
    Calls Try.prog 20 #[.pointer (some ⟨xb, 0, none⟩), pickVal o.dov o.a o.b B o.l.length c] w fun e w' => e = .returned (.tuple #[]) ∧ ∃ x', XAt W w' xb x' ∧ Inv x'.ps ∧ Inv2 x'.ps ∧ Sz x' (N + 8) := by
  by_cases h0 : o.dov = 0
  · have hkl := hi.kl
    have h8 := hi.n8
    have h1 := hi.n1
    simp only [XS.ps] at h8 h1
    rw [h0]
    exact step_work h (by omega) (by omega) fun w1 i hw hil => work_full hN hw hi h2 hs hil hI hl
  · by_cases h1 : o.dov = 1
    · rw [h1]
      exact step_begin h fun w1 hw => (begin_full hN hw hi h2 hs).mono (by rintro e w' ⟨rfl, x', a1, a2, a3, a4, _⟩; exact ⟨rfl, x', a1, a2, a3, a4⟩)
    · exact step_comes h h0 h1 fun w1 hw => (comes_full hN hw hi h2 hs).mono (by rintro e w' ⟨rfl, x', a1, a2, a3, a4, _⟩; exact ⟨rfl, x', a1, a2, a3, a4.more (by omega)⟩)
end
end Go.Proofs.Ytdommbaljchofaa
