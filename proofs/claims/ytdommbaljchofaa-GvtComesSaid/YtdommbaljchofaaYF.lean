/-
  The statements' world: something comes, a pick, in memory and in the plain law.
-/
import Derived.Test.YtdommbaljchofaaYE
import Derived.Test.YtdommbaljchofaaXQ
namespace Go.Proofs.Ytdommbaljchofaa
open Go.RowKit Go.Deep
set_option linter.unusedVariables false
section
variable {W w : World} {xb : Nat} {x : XS}
theorem comes_inv {N : Nat} {which : Int} (hN : N ≤ 90000) (h : XAt W w xb x) (hi : Inv x.ps) (hs : Sz x N) :
    Calls Try.prog 23 #[.pointer (some ⟨xb, 0, none⟩), .int .i64 which] w fun e w' => e = .returned (.tuple #[]) ∧ After W xb x.time (N + 8) w' := by
  by_cases hl : x.l = []
  · refine (comes_none h hl).mono ?_
    rintro e w' ⟨rfl, rfl⟩
    exact ⟨rfl, x, h, hi, hs.more (by omega), Int.le_refl _⟩
  have hkl := hi.kl
  have hol := hi.ol
  have h8 := hi.n8
  simp only [XS.ps] at h8
  have hsl := hs.l
  obtain ⟨i, hil, ei⟩ := modIdx (List.length_pos_iff.2 hl) (by omega) which
  obtain ⟨p, hp⟩ := some_of_lt hil
  have hpm : p ∈ x.l := List.mem_of_getElem? hp
  have hip : Inv { x.ps with l := p :: x.l.eraseIdx i } := hi.perm (erase_perm hp)
  have hel := erase_len hp
  rcases hi.kinds p hpm with hk | hk | hk | hk
  · obtain ⟨f, d, s, hf, hd, hdn, hfs, hM, _, _⟩ := hi.msg p hpm hk
    simp only [XS.ps] at hdn
    obtain ⟨k, hkk⟩ := some_of_lt (l := x.K) (i := d) (by omega)
    obtain ⟨o, hoo⟩ := some_of_lt (l := x.O) (i := d) (by omega)
    refine (comes_msg h hil hp (by omega) ei hk hd hkk hoo (by have := hs.o o (List.mem_of_getElem? hoo); omega)).mono ?_
    rintro e w' ⟨rfl, lv', lc', A', c', hX⟩
    refine ⟨rfl, _, hX, ?_, ?_, Int.le_refl _⟩
    · have h' := hip.recv hk hd (ps_w hkk) (ps_o hoo)
      simpa [XS.ps, List.map_set] using h'
    · refine ⟨by simp; omega, fun q hq => by have := hs.nn q hq; omega, fun q hq => ?_, by have := hs.sent; simp only; omega, by have := hs.rd; simp only; omega⟩
      rcases mem_set_iff hq with rfl | ⟨j', _, hj'⟩
      · have := hs.o o (List.mem_of_getElem? hoo)
        simp; omega
      · have := hs.o q (List.mem_of_getElem? hj')
        omega
  · obtain ⟨d, s, a, hd, hds, hM, _, _⟩ := hi.ack p hpm hk
    obtain ⟨k, hkk, rfl⟩ := ps_k hds
    have hmt := hi.mt d k.s _ hds hM
    have hsent := hs.sent
    simp only [XS.ps] at hmt
    refine (comes_ack h hil hp (by omega) ei hk hd hkk (hi.ackCode hpm hk hd (ps_w hkk)) ⟨by have := hmt.1; omega, by have := hmt.2.1; omega⟩ (hi.rdj d k.s hds).1 (by
      have h1 := (hi.rdj d k.s hds).2
      have h2 := hs.rd
      simp only [XS.ps] at h1
      rcases h1 with e | ⟨_, e⟩ <;> omega) (by omega)).mono ?_
    rintro e w' ⟨rfl, lv', lc', hX⟩
    refine ⟨rfl, _, hX, ?_, ?_, Int.le_refl _⟩
    · have h' := hip.acked hk hd (ps_w hkk)
      simpa [XS.ps, List.map_set] using h'
    · refine ⟨by simp only; omega, fun q hq => ?_, fun q hq => by have := hs.o q hq; omega, by simp only; omega, by have := hs.rd; simp only; omega⟩
      rcases mem_set_iff hq with rfl | ⟨j', _, hj'⟩
      · have := hs.nn k (List.mem_of_getElem? hkk)
        simp only; omega
      · have := hs.nn q (List.mem_of_getElem? hj')
        omega
  · obtain ⟨_, _, d, s, hd, hds, _, _⟩ := hi.st p hpm hk
    obtain ⟨k, hkk, rfl⟩ := ps_k hds
    have hlt := (List.getElem?_eq_some_iff.1 hkk).1
    obtain ⟨o, hoo⟩ := some_of_lt (l := x.O) (i := d) (by omega)
    refine (comes_start h hil hp (by omega) ei hk hd hkk hoo (hi.startCode hpm hk hd (ps_w hkk) (ps_o hoo)) (hi.rdj d k.s hds).1 (by
      have h1 := (hi.rdj d k.s hds).2
      have h2 := hs.rd
      simp only [XS.ps] at h1
      rcases h1 with e | ⟨_, e⟩ <;> omega) (by have := hs.o o (List.mem_of_getElem? hoo); omega)).mono ?_
    rintro e w' ⟨rfl, lv', lc', hX⟩
    refine ⟨rfl, _, hX, ?_, ?_, Int.le_refl _⟩
    · have h' := hip.started hk hd (ps_w hkk) (ps_o hoo)
      simpa [XS.ps, List.map_set] using h'
    · refine ⟨by simp; omega, fun q hq => ?_, fun q hq => by have := hs.o q hq; omega, by have := hs.sent; simp only; omega, by have := hs.rd; simp only; omega⟩
      rcases mem_set_iff hq with rfl | ⟨j', _, hj'⟩
      · have := hs.nn k (List.mem_of_getElem? hkk)
        simp only; omega
      · have := hs.nn q (List.mem_of_getElem? hj')
        omega
  · obtain ⟨d, hfr, hno, hrun, hdn, htm, htold⟩ := hi.repFacts hpm hk
    simp only [XS.ps] at hno hrun hdn htold
    refine (comes_report h hil hp (by omega) ei hk hfr hno hrun (by omega) hdn htm htold rfl rfl rfl rfl).mono ?_
    rintro e w' ⟨rfl, lv', lc', hX⟩
    refine ⟨rfl, _, hX, ?_, ?_, ?_⟩
    · have h' := hip.reported hk hfr
      cases hb : allTold x.n (toldUp x.told d) with
      | true =>
        simp only [XS.ps, hb] at h' ⊢
        simpa using h'
      | false =>
        simp only [XS.ps, hb] at h' ⊢
        simpa using h'
    · exact ⟨by simp only; omega, fun q hq => by have := hs.nn q hq; omega, fun q hq => by have := hs.o q hq; omega, by have := hs.sent; simp only; omega, by have := hs.rd; simp only; omega⟩
    · simp only
      split <;> omega

theorem step_inv {N c : Nat} {B : Option Addr} {o : PickV} (hN : N ≤ 90000) (h : XAt W w xb x) (hi : Inv x.ps) (hs : Sz x N) (hI : IntsAt W B o.l) (hl : o.l.length ≤ 5) :
    Calls Try.prog 20 #[.pointer (some ⟨xb, 0, none⟩), pickVal o.dov o.a o.b B o.l.length c] w fun e w' => e = .returned (.tuple #[]) ∧ After W xb x.time (N + 8) w' := by
  by_cases h0 : o.dov = 0
  · have hkl := hi.kl
    have h8 := hi.n8
    have h1 := hi.n1
    simp only [XS.ps] at h8 h1
    rw [h0]
    exact step_work h (by omega) (by omega) fun w1 i hw hil => work_inv hN hw hi hs hil hI hl
  · by_cases h1 : o.dov = 1
    · rw [h1]
      exact step_begin h fun w1 hw => begin_inv hN hw hi hs
    · exact step_comes h h0 h1 fun w1 hw => comes_inv hN hw hi hs
end
end Go.Proofs.Ytdommbaljchofaa
