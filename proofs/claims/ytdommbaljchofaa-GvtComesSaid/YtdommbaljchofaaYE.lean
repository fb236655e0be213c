/-
  The statements' world: a pick, in memory and in the plain law.
-/
import Derived.Test.YtdommbaljchofaaYD
import Derived.Test.YtdommbaljchofaaXJ
import Derived.Test.YtdommbaljchofaaXK
import Derived.Test.YtdommbaljchofaaXL
import Derived.Test.YtdommbaljchofaaXM
import Derived.Test.YtdommbaljchofaaXN
namespace Go.Proofs.Ytdommbaljchofaa
open Go.RowKit Go.Deep
set_option linter.unusedVariables false

def XS.ps (x : XS) : PS := ⟨x.K.map (·.s), x.O.map OK.L, x.l, x.n, x.rd, x.told, x.run, x.least, x.time, x.sent⟩
structure Sz (x : XS) (N : Nat) : Prop where
  l : x.l.length ≤ N
  nn : ∀ k ∈ x.K, k.nn ≤ N
  o : ∀ o ∈ x.O, o.L.length ≤ N + 20
  sent : x.sent ≤ N
  rd : x.rd ≤ N
theorem Sz.more {x : XS} {N N' : Nat} (h : Sz x N) (hN : N ≤ N') : Sz x N' :=
  ⟨by have := h.l; omega, fun k hk => by have := h.nn k hk; omega, fun o ho => by have := h.o o ho; omega, by have := h.sent; omega, by have := h.rd; omega⟩

section
variable {W w : World} {xb : Nat} {x : XS}
theorem Inv.kl (h : Inv x.ps) : x.K.length = x.n := by have := h.lw; simpa [XS.ps] using this
theorem Inv.ol (h : Inv x.ps) : x.O.length = x.n := by have := h.lo; simpa [XS.ps] using this
theorem ps_w {d : Nat} {k : WK} (hk : x.K[d]? = some k) : x.ps.ws[d]? = some k.s := by simp [XS.ps, hk]
theorem ps_o {d : Nat} {o : OK} (ho : x.O[d]? = some o) : x.ps.op[d]? = some o.L := by simp [XS.ps, ho]
theorem ps_k {d : Nat} {s : WS} (h : x.ps.ws[d]? = some s) : ∃ k, x.K[d]? = some k ∧ k.s = s := by
  simp only [XS.ps, List.getElem?_map, Option.map_eq_some_iff] at h
  exact h
theorem erase_perm {p : Pk} : ∀ {l : List Pk} {i : Nat}, l[i]? = some p → l.Perm (p :: l.eraseIdx i)
  | [], i, h => by simp at h
  | q :: l, 0, h => by
    simp only [List.getElem?_cons_zero, Option.some.injEq] at h
    subst h
    exact List.Perm.refl _
  | q :: l, i + 1, h => by
    simp only [List.getElem?_cons_succ] at h
    exact ((erase_perm h).cons q).trans (List.Perm.swap p q _)
theorem erase_len {l : List Pk} {i : Nat} {p : Pk} (hp : l[i]? = some p) : (l.eraseIdx i).length + 1 = l.length := by
  obtain ⟨hi, _⟩ := List.getElem?_eq_some_iff.1 hp
  rw [List.length_eraseIdx_of_lt hi]
  omega

/-- The sending, no program in sight. -/
theorem SD.inv {P : PS} {i : Nat} {s : WS} {L : List Int} {t : Int} (hw : P.ws[i]? = some s) (ho : P.op[i]? = some L) (ht : t ∈ L) : ∀ (later : List Int) (q : SD),
    Inv { P with ws := P.ws.set i ⟨s.rd, s.lo, q.M⟩, l := q.l, sent := q.sent } →
    Inv { P with ws := P.ws.set i ⟨s.rd, s.lo, (later.foldl (SD.send P.n i t) q).M⟩, l := (later.foldl (SD.send P.n i t) q).l, sent := (later.foldl (SD.send P.n i t) q).sent } := by
  intro later
  induction later with
  | nil => intro q h; exact h
  | cons d later ih =>
    intro q h
    rw [List.foldl_cons]
    refine ih _ ?_
    by_cases hs : d < 0 ∨ 1000 < d ∨ 1073741824 < t + d
    · rw [show SD.send P.n i t q d = q from if_pos hs]
      exact h
    · rw [show SD.send P.n i t q d = ⟨q.M ++ [(q.sent, t + d)], q.l ++ [⟨0, i, ((i : Int) + d) % (P.n : Int), q.sent, t + d⟩], q.sent + 1⟩ from if_neg hs]
      have hn1 := h.n1
      simp only at hn1
      have hm0 := Int.emod_nonneg ((i : Int) + d) (show (P.n : Int) ≠ 0 by omega)
      have hm1 := Int.emod_lt_of_pos ((i : Int) + d) (show (0 : Int) < (P.n : Int) by omega)
      obtain ⟨e, he⟩ : ∃ e : Nat, ((i : Int) + d) % (P.n : Int) = (e : Int) := ⟨(((i : Int) + d) % (P.n : Int)).toNat, by omega⟩
      rw [he] at hm1 ⊢
      have h' := h.send (i := i) (d := e) (s := ⟨s.rd, s.lo, q.M⟩) (L := L) (t := t) (u := t + d) ((set_get hw).2 (.inl ⟨rfl, rfl⟩)) ho ht (by omega) (by omega) (by simp only; omega)
      simpa [List.set_set] using h'
theorem SD.Ok.all {n i : Nat} {t N : Int} : ∀ (later : List Int) (q : SD) (j : Nat), q.Ok j N → (later.foldl (SD.send n i t) q).Ok (j + later.length) N := by
  intro later
  induction later with
  | nil => intro q j h; exact h
  | cons d later ih =>
    intro q j h
    rw [List.foldl_cons]
    have := ih _ (j + 1) (h.send (n := n) (i := i) (t := t) (d := d))
    simpa [Nat.add_assoc, Nat.add_comm 1] using this

set_option maxRecDepth 100000 in
set_option maxHeartbeats 2000000 in
theorem work_none {i c : Nat} {which : Int} {A3 : Option Addr} {m : Nat} {o : OK} (h : XAt W w xb x) (ho : x.O[i]? = some o) (hne : o.L = []) :
    Calls Try.prog 41 #[.pointer (some ⟨xb, 0, none⟩), .int .i64 i, .int .i64 which, .slice A3 m c] w fun e w' => e = .returned (.tuple #[]) ∧ w = w' := by
  have c1 := h.c1
  obtain ⟨g, hov, hgl, hgc, hgz⟩ := h.atO ho
  rw [hov] at c1
  rw [hne] at hgc
  have hil := (List.getElem?_eq_some_iff.1 ho).1
  have hlt := h.lt
  have g1 : decide (x.O.length ≤ i) = false := by simp; omega
  have g2' : decide (i < x.O.length) = true := by simp; omega
  clear h hne
  go_enter Try.func41, Try.ntmps41
  go_wp2_with fail
  first | go_end0 | refine bodyPost_ret (results_none rfl _ _ _) rfl ?_
  exact ⟨rfl, rfl⟩

/-- What a call leaves: the world in memory, the plain law's, the sizes, and a time that did not fall. -/
def After (W : World) (xb : Nat) (t0 : Int) (N : Nat) (w' : World) : Prop := ∃ x', XAt W w' xb x' ∧ Inv x'.ps ∧ Sz x' N ∧ t0 ≤ x'.time

theorem begin_inv {N : Nat} (hN : N ≤ 90000) (h : XAt W w xb x) (hi : Inv x.ps) (hs : Sz x N) :
    Calls Try.prog 25 #[.pointer (some ⟨xb, 0, none⟩)] w fun e w' => e = .returned (.tuple #[]) ∧ After W xb x.time (N + 8) w' := by
  cases hr : x.run with
  | true =>
    refine (begins_run h hr).mono ?_
    rintro e w' ⟨rfl, rfl⟩
    exact ⟨rfl, x, h, hi, hs.more (by omega), Int.le_refl _⟩
  | false =>
    have hkl := hi.kl
    have h8 := hi.n8
    simp only [XS.ps] at h8
    refine (begins_ok h hr h8 (by omega) hi.r0 (by have := hs.rd; omega) (by have := hs.l; omega)).mono ?_
    rintro e w' ⟨rfl, tb', lv', lc', hX⟩
    refine ⟨rfl, _, hX, ?_, ?_, Int.le_refl _⟩
    · have h' := hi.begin (by simpa [XS.ps] using hr)
      simpa [XS.ps] using h'
    · exact ⟨by have := hs.l; simp [starts]; omega, fun k hk => by have := hs.nn k hk; omega, fun o ho => by have := hs.o o ho; omega, by have := hs.sent; simp only; omega, by have := hs.rd; simp only; omega⟩

theorem work_inv {N i c : Nat} {which : Int} {A3 : Option Addr} {later : List Int} (hN : N ≤ 90000) (h : XAt W w xb x) (hi : Inv x.ps) (hs : Sz x N) (hil : i < x.K.length) (hI : IntsAt W A3 later) (hlat : later.length ≤ 5) :
    Calls Try.prog 41 #[.pointer (some ⟨xb, 0, none⟩), .int .i64 i, .int .i64 which, .slice A3 later.length c] w fun e w' => e = .returned (.tuple #[]) ∧ After W xb x.time (N + 8) w' := by
  have hkl := hi.kl
  have hol := hi.ol
  have h8 := hi.n8
  simp only [XS.ps] at h8
  obtain ⟨k, hk⟩ := some_of_lt hil
  obtain ⟨o, ho⟩ := some_of_lt (l := x.O) (i := i) (by omega)
  by_cases hne : o.L = []
  · refine (work_none h ho hne).mono ?_
    rintro e w' ⟨rfl, rfl⟩
    exact ⟨rfl, x, h, hi, hs.more (by omega), Int.le_refl _⟩
  · have hq : (SD.mk k.s.M x.l x.sent).Ok 0 (N : Int) := ⟨fun p hp => (hi.mt i k.s p (ps_w hk) hp).2.1, hi.s0, by have := hs.sent; simp only; omega, by have := hs.l; simp only; omega⟩
    have hq' : (SD.mk k.s.M x.l x.sent).Ok 0 100000 := ⟨hq.fr, hq.s0, by have := hq.s1; omega, by have := hq.ll; omega⟩
    refine (work_any h hk ho hI hne (by have := hs.o o (List.mem_of_getElem? ho); omega) (fun t ht => hi.opt i o.L t (ps_o ho) ht) (by omega) (by omega) hq' (by have := hs.nn k (List.mem_of_getElem? hk); omega)).mono ?_
    rintro e w' ⟨rfl, nn', lv', lc', A', c', j, t, htj, hnn, hX⟩
    have hall := hq.all (n := x.K.length) (i := i) (t := t) later
    refine ⟨rfl, _, hX, ?_, ?_, Int.le_refl _⟩
    · have h1 := SD.inv (P := x.ps) (ps_w hk) (ps_o ho) (List.mem_of_getElem? htj) later ⟨k.s.M, x.l, x.sent⟩ (by
        have e : (⟨k.s.rd, k.s.lo, k.s.M⟩ : WS) = k.s := rfl
        rw [e]
        have e2 : x.ps.ws.set i k.s = x.ps.ws := by
          obtain ⟨_, h2⟩ := List.getElem?_eq_some_iff.1 (ps_w hk)
          rw [← h2]
          exact List.set_getElem_self _
        rw [e2]
        exact hi)
      have h2 := h1.drop (i := i) (L := o.L) (L' := o.L.eraseIdx j) (ps_o ho) (fun u hu => List.mem_of_mem_eraseIdx hu)
      rw [hkl]
      simpa [XS.ps, workX, List.map_set] using h2
    · have a1 := hall.s1
      have a2 := hall.ll
      refine ⟨by simp only [workX]; omega, fun q hq => ?_, fun q hq => ?_, by simp only [workX]; omega, by have := hs.rd; simp only [workX]; omega⟩
      · simp only [workX] at hq
        rcases mem_set_iff hq with rfl | ⟨j', _, hj'⟩
        · have := hs.nn k (List.mem_of_getElem? hk)
          simp only; omega
        · have := hs.nn q (List.mem_of_getElem? hj')
          omega
      · rcases mem_set_iff hq with rfl | ⟨j', _, hj'⟩
        · have h1 := hs.o o (List.mem_of_getElem? ho)
          have h2 := List.length_eraseIdx_le o.L j
          simp only; omega
        · have := hs.o q (List.mem_of_getElem? hj')
          omega
end
end Go.Proofs.Ytdommbaljchofaa
