/-
  GvtMasters: what each call of a master answers, and which time it tells, call by call, is what the document's answer says: the Go function answers true for every number of workers and every list of calls, and leaves its arguments as they were. No condition.
-/
import Derived.Test.YtdommbaljchofaaG
import Derived.Test.YtdommbaljchofaaO
import Derived.Test.YtdommbaljchofaaA
import Derived.Deep.RegionWith
import Derived.Deep.LoopGhost
import Derived.Deep.RegionHeld3
import Derived.Deep.DeepCutAuto
namespace Go.Proofs.Ytdommbaljchofaa
open Go.ChangeShapes Go.WideShapes Go.ChangeAt Go.RowKit Go.Deep
set_option linter.unusedVariables false

theorem Try.info3 : (Try.prog.info? 3).map (fun i => (i.zero, i.size, i.bytes)) = some (some (.int .i64 0), 1, 8) := by kernel_rfl
theorem leastTo_none : ∀ n, Never = leastTo (fun _ => -1) n := by
  intro n
  induction n with
  | zero => rfl
  | succ n ih => simp only [leastTo]; rw [if_neg (by omega)]; exact ih
theorem MAt.drew {w : World} {qb tb n : Nat} {rd least time : Int} {told : Nat → Bool} {run : Bool} (h : MAt w qb tb n rd told run least time) : MAt w.drew qb tb n rd told run least time := ⟨h.hd, h.tl⟩
theorem RMAt.drew {w : World} {rb lb n : Nat} {rd time : Int} {L : Nat → Int} {run : Bool} (h : RMAt w rb lb n rd L run time) : RMAt w.drew rb lb n rd L run time := ⟨h.hd, h.tl⟩
theorem Only.undrew {s : List Nat} {w w' : World} (h : Only s w.drew w') : Only s w w' := ⟨h.os, h.tape, h.output, h.size, h.block⟩
/-- What holds at every round's head. -/
structure MM (W w : World) (qb tb rb lb n : Nat) (rd : Int) (told : Nat → Bool) (L : Nat → Int) (run : Bool) (least time : Int) : Prop where
  m : MAt w qb tb n rd told run least time
  r : RMAt w rb lb n rd L run time
  bl : Below W.heap.size W w
  b1 : W.heap.size ≤ qb
  b2 : W.heap.size ≤ tb
  b3 : W.heap.size ≤ rb
  b4 : W.heap.size ≤ lb
  rel : run = true → (∀ j < n, told j = rTold L j) ∧ least = leastTo L n
namespace MM
variable {W w w2 w3 : World} {qb tb rb lb n : Nat} {rd rd' least time least' time' : Int} {told told' : Nat → Bool} {L L' : Nat → Int} {run run' : Bool}
theorem ne (h : MM W w qb tb rb lb n rd told L run least time) : (qb ≠ rb ∧ qb ≠ lb) ∧ (tb ≠ rb ∧ tb ≠ lb) :=
  ⟨⟨row_ne h.m.hd h.r.hd (by decide), row_ne h.m.hd h.r.tl (by decide)⟩, ⟨row_ne h.m.tl h.r.hd (by decide), row_ne h.m.tl h.r.tl (by decide)⟩⟩
theorem r2 (h : MM W w qb tb rb lb n rd told L run least time) (hO : Only [qb, tb] w w2) : RMAt w2 rb lb n rd L run time :=
  h.r.only hO (by have := h.ne; simp; omega) (by have := h.ne; simp; omega)
theorem quiet (h : MM W w qb tb rb lb n rd told L run least time) (hO : Only [] w w2) : MM W w2 qb tb rb lb n rd told L run least time :=
  ⟨h.m.only0 hO, h.r.only0 hO, Only.to_below h.bl hO (by simp) h.bl.size, h.b1, h.b2, h.b3, h.b4, h.rel⟩
theorem step (h : MM W w qb tb rb lb n rd told L run least time) (hM : MAt w2 qb tb n rd' told' run' least' time') (hO : Only [qb, tb] w w2) (hR : RMAt w3 rb lb n rd' L' run' time') (hO2 : Only [rb, lb] w2 w3)
    (rel : run' = true → (∀ j < n, told' j = rTold L' j) ∧ least' = leastTo L' n) : MM W w3 qb tb rb lb n rd' told' L' run' least' time' := by
  have hne := h.ne
  have h1 := Only.to_below h.bl hO (by have := h.b1; have := h.b2; simp; omega) h.bl.size
  exact ⟨hM.only hO2 (by simp; omega) (by simp; omega), hR, Only.to_below h1 hO2 (by have := h.b3; have := h.b4; simp; omega) h1.size, h.b1, h.b2, h.b3, h.b4, rel⟩
theorem begin (h : MM W w qb tb rb lb n rd told L false least time) (hM : MAt w2 qb w.heap.size n (rd + 1) (fun _ => false) true Never time) (hO : Only [qb] w w2) (hR : RMAt w3 rb lb n (rd + 1) (fun _ => -1) true time) (hO2 : Only [rb, lb] w2 w3) :
    MM W w3 qb w.heap.size rb lb n (rd + 1) (fun _ => false) (fun _ => -1) true Never time := by
  have hne := h.ne
  have l1 := h.r.hd.lt
  have l2 := h.r.tl.lt
  have h1 := Only.to_below h.bl hO (by have := h.b1; simp; omega) h.bl.size
  refine ⟨hM.only hO2 (by simp; omega) (by simp; omega), hR, Only.to_below h1 hO2 (by have := h.b3; have := h.b4; simp; omega) h1.size, h.b1, h.bl.size, h.b3, h.b4, fun _ => ⟨fun j hj => by simp [rTold], ?_⟩⟩
  exact leastTo_none n
theorem start {w1 : World} {tb0 : Nat} (hM : MAt w1 qb tb0 n 0 (fun _ => false) false 0 0) (hb : Below W.heap.size W w1) (b1 : W.heap.size ≤ qb) (b2 : W.heap.size ≤ tb0) :
    MM W ((w1.alloc (.cells (madeCells #[.int .i64 0] n) 3)).alloc (.cells #[.slice (some ⟨w1.heap.size, 0, none⟩) n n, .int .i64 0, .bool false, .int .i64 0] 60)) qb tb0 (w1.heap.size + 1) w1.heap.size n 0 (fun _ => false) (fun _ => 0) false 0 0 := by
  have hs : (w1.alloc (.cells (madeCells #[.int .i64 0] n) 3)).heap.size = w1.heap.size + 1 := by simp
  refine ⟨(hM.alloc _).alloc _, ⟨?_, (World.rowIs_made _ _ _ _).alloc _⟩, (hb.alloc hb.size _).alloc (by rw [hs]; have := hb.size; omega) _, b1, b2, by have := hb.size; omega, hb.size, fun h => by cases h⟩
  have h := World.rowIs_alloc (w1.alloc (.cells (madeCells #[.int .i64 0] n) 3)) #[.slice (some ⟨w1.heap.size, 0, none⟩) n n, .int .i64 0, .bool false, .int .i64 0] 60 (rF 0 w1.heap.size n false 0) (by
    intro i hi
    simp at hi
    rcases (show i = 0 ∨ i = 1 ∨ i = 2 ∨ i = 3 by omega) with rfl | rfl | rfl | rfl <;> rfl)
  rw [hs] at h
  exact h
end MM

theorem repCode_eq {n : Nat} {rd : Int} {told : Nat → Bool} {L : Nat → Int} {run : Bool} (h : run = true → ∀ j < n, told j = rTold L j) (a b c : Int) : repCode n rd (rTold L) run a b c = repCode n rd told run a b c := by
  simp only [repCode]
  by_cases h1 : a < 0 ∨ (n : Int) ≤ a
  · rw [if_pos h1, if_pos h1]
  · rw [if_neg h1, if_neg h1]
    by_cases h2 : run = false ∨ b ≠ rd
    · rw [if_pos h2, if_pos h2]
    · rw [if_neg h2, if_neg h2, h (by cases run <;> simp_all) a.toNat (by omega)]
theorem repCode_zero {n : Nat} {rd : Int} {told : Nat → Bool} {run : Bool} {a b c : Int} (h : repCode n rd told run a b c = 0) : ∃ k : Nat, a = (k : Int) ∧ k < n ∧ IsTime c ∧ run = true ∧ b = rd ∧ told k = false := by
  simp only [repCode] at h
  by_cases h1 : a < 0 ∨ (n : Int) ≤ a
  · rw [if_pos h1] at h; omega
  · rw [if_neg h1] at h
    by_cases h3 : IsTime c
    · rw [if_pos h3] at h
      by_cases h2 : run = false ∨ b ≠ rd
      · rw [if_pos h2] at h; omega
      · rw [if_neg h2] at h
        obtain ⟨k, rfl⟩ : ∃ k : Nat, a = (k : Int) := ⟨a.toNat, by omega⟩
        refine ⟨k, rfl, by omega, h3, by cases run <;> simp_all, by simp_all, ?_⟩
        cases hb : told k with
        | false => rfl
        | true => rw [Int.toNat_natCast, hb, if_pos rfl] at h; omega
    · rw [if_neg h3] at h; omega

/-- The pure step of a report that is taken. -/
theorem rel_step {n k : Nat} {told : Nat → Bool} {L : Nat → Int} {least c : Int} (hk : k < n) (ht : IsTime c) (hf : told k = false) (h : (∀ j < n, told j = rTold L j) ∧ least = leastTo L n) :
    L k < 0 ∧ (∀ j < n, toldUp told k j = rTold (lUp L k c) j) ∧ min least c = leastTo (lUp L k c) n := by
  have h1 : L k < 0 := by
    have := h.1 k hk
    rw [hf] at this
    have := of_decide_eq_false this.symm
    omega
  refine ⟨h1, fun j hj => ?_, ?_⟩
  · by_cases e : j = k
    · subst e
      have : 0 ≤ c := ht.1
      simp [toldUp, rTold, lUp, this]
    · have := h.1 j hj
      have e2 : lUp L k c j = L j := by simp only [lUp]; rw [if_neg e]
      simp only [toldUp, rTold]
      rw [if_neg e, e2]
      exact this
  · rw [leastTo_up hk h1 ht.1, h.2]
theorem allTold_congr {n : Nat} {f g : Nat → Bool} (h : ∀ j < n, f j = g j) : allTold n f = allTold n g := by
  unfold allTold
  congr 1
  rw [eq_iff_iff]
  exact ⟨fun k j hj => (h j hj).symm.trans (k j hj), fun k j hj => (h j hj).trans (k j hj)⟩

set_option maxRecDepth 100000 in
set_option maxHeartbeats 4000000 in
theorem masters_main {w : World} {n m c : Nat} {A : Option Addr} {ops : Nat → OpV} (h1 : 1 ≤ n) (h2 : n ≤ 8) (hfew : fewB m ops = true) (hO : OpsAt w A m ops) :
    Calls Try.prog 7 #[.int .i64 n, .slice A m c] w fun e w' => e = .returned (.bool true) ∧ Below w.heap.size w w' := by
  have hm : m ≤ 60 := (few_yes.1 hfew).2
  have hmk := run_make_row' (P := Try.prog) 28 3 (.int .i64 0) 8 Try.underlying28 Try.info3 rfl .i64 .i64 n (by omega) (by omega)
  have d1 : decide ((n : Int) < 1) = false := by simp; omega
  have d2 : decide (8 < (n : Int)) = false := by simp; omega
  have HO : Hid (OpsAt w A m ops) := hO
  have HF := hide hfew
  clear hO hfew
  go_enter Try.func7, Try.ntmps7
  go_wp2_with fail
  refine (newm_ok h1 h2).mono ?_
  rintro e w1 ⟨qb, tb0, rfl, hM, hb, b1, b2⟩
  have HM : Hid (MAt w1 qb tb0 n 0 (fun _ => false) false 0 0) := hM
  have HB : Hid (Below w.heap.size w w1) := hb
  have HO1 : Hid (OpsAt w1 A m ops) := HO.out.below hb
  clear hM hb
  go_wp2_with (go_at_call 10; refine (few_any (by omega) HO1.out (unhide HF)).mono ?_; rintro e w' ⟨rfl, rfl⟩)
  go_loopw [8] (fun i wr => ∃ (k : Nat) (tb : Nat) (rd : Int) (told : Nat → Bool) (L : Nat → Int) (run : Bool) (least time : Int), k ≤ m ∧ i = .int .i64 k ∧ 0 ≤ rd ∧ rd ≤ k ∧ MM w wr qb tb (w1.heap.size + 1) w1.heap.size n rd told L run least time) (fun i _ => m - (intOf i).toNat)
  case atStart => exact ⟨0, tb0, 0, _, _, _, _, _, Nat.zero_le _, rfl, by omega, by omega, MM.start HM.out HB.out b1 b2⟩
  case round =>
    obtain ⟨k, tb, rd, told, L, run, least, time, hk, rfl, h0, hrk, hR⟩ := hrel
    have HR : Hid (MM w wr qb tb (w1.heap.size + 1) w1.heap.size n rd told L run least time) := hR
    have HS : Hid (w1.heap.size = w1.heap.size) := rfl
    generalize w1.heap.size + 1 = rb at *
    generalize w1.heap.size = lb at *
    by_cases hlt : k < m
    · obtain ⟨b, off, B, d, rfl, hbl, ho⟩ := (HO.out.below ⟨hR.bl.os, hR.bl.tape, hR.bl.output, hR.bl.size, hR.bl.block⟩) k hlt
      have hbw : b < w.heap.size := by obtain ⟨b', off', B', d', hA, hl, _⟩ := HO.out k hlt; injection hA with hA; injection hA with hA; omega
      have p0 := ho.c0
      have p1 := ho.c1
      have p2 := ho.c2
      have p3 := ho.c3
      clear hR ho
      have g1 : decide (m ≤ k) = false := by simp; omega
      have g2 : decide (k < m) = true := by simp; omega
      generalize (ops k).ask = ask at p0
      generalize (ops k).a = a at p1
      generalize (ops k).b = bb at p2
      generalize (ops k).c = cc at p3
      go_upto_if 72 with fail
      go_cut [8] (fun iv wc => iv = .int .i64 k ∧ ∃ (tb : Nat) (rd : Int) (told : Nat → Bool) (L : Nat → Int) (run : Bool) (least time : Int), 0 ≤ rd ∧ rd ≤ k + 1 ∧ MM w wc qb tb rb lb n rd told L run least time)
      case first =>
       as_aux_lemma =>
        by_cases hask : ask = 3
        · subst hask
          cases run with
          | true =>
            go_wp2_with (first | (go_at_call 27; refine (begin_run HR.out.m).mono ?_; rintro e w' ⟨rfl, rfl⟩) | (go_at_call 28; refine (rbegin_run HR.out.r).mono ?_; rintro e w' ⟨rfl, rfl⟩))
            go_meet
            exact ⟨rfl, tb, rd, told, L, true, least, time, h0, by omega, HR.out⟩
          | false =>
            have e2 : (rd + 1 != rd + 1) = false := by simp
            go_wp2_with fail
            refine (begin_ok HR.out.m h2 h0 (by omega)).mono ?_
            rintro e w2 ⟨rfl, hM2, hO2⟩
            have HR2 : Hid (RMAt w2 rb lb n rd L false time) := HR.out.r.only hO2 (by have := HR.out.ne; simp; omega) (by have := HR.out.ne; simp; omega)
            have HM2 := hide hM2
            have HO2 := hide hO2
            clear hM2 hO2 p0 p1 p2 p3
            go_wp2_with fail
            refine (rbegin_ok HR2.out (by omega) h0 (by omega)).mono ?_
            rintro e w3 ⟨rfl, hR3, hO3⟩
            have HX : Hid (MM w w3 qb wr.heap.size rb lb n (rd + 1) (fun _ => false) (fun _ => -1) true Never time) := HR.out.begin (unhide HM2) (unhide HO2) hR3 hO3
            clear hR3 hO3
            go_wp2_with fail
            go_meet
            exact ⟨rfl, _, rd + 1, _, _, true, Never, time, by omega, by omega, HX.out⟩
        · have hask' : (ask == 3) = false := by simpa using hask
          clear hask
          have hrel := HR.out.rel
          have hceq := repCode_eq (n := n) (rd := rd) (L := L) (told := told) (run := run) (fun h => (hrel h).1) a bb cc
          by_cases hcd : repCode n rd told run a bb cc = 0
          · obtain ⟨kk, hkk, hkn, ht, hrun, hbr, hf⟩ := repCode_zero hcd
            subst hkk
            subst hrun
            rw [hbr] at p2
            obtain ⟨s1, s2, s3⟩ := rel_step hkn ht hf (hrel rfl)
            have s4 := allTold_congr s2
            obtain ⟨x, hx⟩ : ∃ x, min least cc = x := ⟨_, rfl⟩
            obtain ⟨L', hL'⟩ : ∃ L', lUp L kk cc = L' := ⟨_, rfl⟩
            obtain ⟨T', hT'⟩ : ∃ T', toldUp told kk = T' := ⟨_, rfl⟩
            have HKN : Hid (kk < n) := hkn
            have HT : Hid (IsTime cc) := ht
            have HFk : Hid (told kk = false) := hf
            have HLk : Hid (L kk < 0) := s1
            have HXe := hide hx
            have HLe := hide hL'
            have HTe := hide hT'
            rw [hL'] at s2 s3 s4
            rw [hT'] at s2 s4
            rw [hx] at s3
            have HS2 : Hid ((∀ j < n, T' j = rTold L' j) ∧ x = leastTo L' n) := ⟨s2, s3⟩
            generalize hbd : allTold n T' = bd at s4
            have HBD := hide hbd
            have HBD2 := hide s4.symm
            clear hcd hceq hrel hbr hf s1 s2 s3 s4 hx hL' hT' hbd ht hkn
            cases bd with
            | true =>
             as_aux_lemma =>
              obtain ⟨y, hy⟩ : ∃ y, max time x = y := ⟨_, rfl⟩
              have HYe := hide hy
              clear hy
              have hno : b ∉ [qb, tb] := by have := HR.out.b1; have := HR.out.b2; simp; omega
              have hno2 : b ∉ [rb, lb] := by have := HR.out.b3; have := HR.out.b4; simp; omega
              go_upto_region 15 with fail
              go_cut [13, 14] (fun r e wx => r = .bool true ∧ e = .int .i64 0 ∧ MAt wx qb tb n rd T' false x y ∧ Only [qb, tb] wr wx)
              case first =>
                go_region_held3 (fun w' => w'.cell? ⟨b, off + k * 5 + 1, none⟩ = some (.int .i64 kk) ∧ w'.cell? ⟨b, off + k * 5 + 2, none⟩ = some (.int .i64 rd) ∧ w'.cell? ⟨b, off + k * 5 + 3, none⟩ = some (.int .i64 cc)) (first | exact ⟨p1, p2, p3⟩ | exact unhide HKP | go_keep) (first | (go_at_call 29; (with_reducible refine Calls.mono (report_done HR.out.m.drew (by omega) HKN.out HT.out HFk.out (by rw [unhide HTe]; exact unhide HBD) (unhide HXe) (unhide HYe)) ?_); rintro e w2 ⟨rfl, hM2, hO2⟩; rw [unhide HTe] at hM2; have HM2 := hide hM2; have HO2 := hide hO2; have HKP := hide (And.intro ((hO2.cell (p := ⟨b, off + k * 5 + 1, none⟩) hbl hno).trans p1) (And.intro ((hO2.cell (p := ⟨b, off + k * 5 + 2, none⟩) hbl hno).trans p2) ((hO2.cell (p := ⟨b, off + k * 5 + 3, none⟩) hbl hno).trans p3))); clear hM2 hO2))
                all_goals
                  go_wp2_with fail
                  go_meet
                  exact ⟨rfl, rfl, unhide HM2, (unhide HO2).undrew⟩
              case rest =>
                obtain ⟨rfl, rfl, hM2, hO2⟩ := hcut
                have HR2 : Hid (RMAt wc rb lb n rd L true time) := HR.out.r2 hO2
                have q1 : wc.cell? ⟨b, off + k * 5 + 1, none⟩ = some (.int .i64 kk) := (hO2.cell (p := ⟨b, off + k * 5 + 1, none⟩) hbl (by have := HR.out.b1; have := HR.out.b2; simp; omega)).trans p1
                have q2 : wc.cell? ⟨b, off + k * 5 + 2, none⟩ = some (.int .i64 rd) := (hO2.cell (p := ⟨b, off + k * 5 + 2, none⟩) hbl (by have := HR.out.b1; have := HR.out.b2; simp; omega)).trans p2
                have q3 : wc.cell? ⟨b, off + k * 5 + 3, none⟩ = some (.int .i64 cc) := (hO2.cell (p := ⟨b, off + k * 5 + 3, none⟩) hbl (by have := HR.out.b1; have := HR.out.b2; simp; omega)).trans p3
                have HM2 := hide hM2
                have HO2 := hide hO2
                have q0 : b < wc.heap.size := Nat.lt_of_lt_of_le hbl hO2.size
                clear hM2 hO2 p0 p1 p2 p3 hbl
                go_upto_region 16 with fail
                go_cut [15, 16] (fun r e wx => r = .bool true ∧ e = .int .i64 0 ∧ MM w wx qb tb rb lb n rd T' L' false x y)
                case first =>
                  go_region_held3 (fun w' => w'.cell? ⟨b, off + k * 5 + 1, none⟩ = some (.int .i64 kk) ∧ w'.cell? ⟨b, off + k * 5 + 2, none⟩ = some (.int .i64 rd) ∧ w'.cell? ⟨b, off + k * 5 + 3, none⟩ = some (.int .i64 cc)) (first | exact ⟨q1, q2, q3⟩ | exact unhide HKP | go_keep) (first | (go_at_call 30; (with_reducible refine Calls.mono (rreport_ok (L' := L') (b := true) (y := y) HR2.out.drew (by omega) HKN.out HT.out HLk.out (unhide HLe) (unhide HBD2) ((if_pos rfl).trans (by rw [← HS2.out.2]; exact unhide HYe))) ?_); rintro e w3 ⟨rfl, hR3, hO3⟩; have HKP := hide (And.intro ((hO3.cell (p := ⟨b, off + k * 5 + 1, none⟩) q0 hno2).trans q1) (And.intro ((hO3.cell (p := ⟨b, off + k * 5 + 2, none⟩) q0 hno2).trans q2) ((hO3.cell (p := ⟨b, off + k * 5 + 3, none⟩) q0 hno2).trans q3))); have HX3 : Hid (MM w w3 qb tb rb lb n rd T' L' false x y) := HR.out.step (unhide HM2) (unhide HO2) hR3 hO3.undrew (fun _ => HS2.out); clear hR3 hO3))
                  all_goals
                    go_wp2_with fail
                    go_meet
                    exact ⟨rfl, rfl, HX3.out⟩
                case rest =>
                  obtain ⟨rfl, rfl, hX⟩ := hcut
                  have HX3 := hide hX
                  clear hX q1 q2 q3 q0
                  go_wp2_with fail
                  go_meet
                  exact ⟨rfl, tb, rd, T', L', false, x, y, h0, by omega, unhide HX3⟩
            | false =>
             as_aux_lemma =>
              have hno : b ∉ [qb, tb] := by have := HR.out.b1; have := HR.out.b2; simp; omega
              have hno2 : b ∉ [rb, lb] := by have := HR.out.b3; have := HR.out.b4; simp; omega
              go_upto_region 15 with fail
              go_cut [13, 14] (fun r e wx => r = .bool false ∧ e = .int .i64 0 ∧ MAt wx qb tb n rd T' true x time ∧ Only [qb, tb] wr wx)
              case first =>
                go_region_held3 (fun w' => w'.cell? ⟨b, off + k * 5 + 1, none⟩ = some (.int .i64 kk) ∧ w'.cell? ⟨b, off + k * 5 + 2, none⟩ = some (.int .i64 rd) ∧ w'.cell? ⟨b, off + k * 5 + 3, none⟩ = some (.int .i64 cc)) (first | exact ⟨p1, p2, p3⟩ | exact unhide HKP | go_keep) (first | (go_at_call 29; (with_reducible refine Calls.mono (report_more HR.out.m.drew (by omega) HKN.out HT.out HFk.out (by rw [unhide HTe]; exact unhide HBD) (unhide HXe)) ?_); rintro e w2 ⟨rfl, hM2, hO2⟩; rw [unhide HTe] at hM2; have HM2 := hide hM2; have HO2 := hide hO2; have HKP := hide (And.intro ((hO2.cell (p := ⟨b, off + k * 5 + 1, none⟩) hbl hno).trans p1) (And.intro ((hO2.cell (p := ⟨b, off + k * 5 + 2, none⟩) hbl hno).trans p2) ((hO2.cell (p := ⟨b, off + k * 5 + 3, none⟩) hbl hno).trans p3))); clear hM2 hO2))
                all_goals
                  go_wp2_with fail
                  go_meet
                  exact ⟨rfl, rfl, unhide HM2, (unhide HO2).undrew⟩
              case rest =>
                obtain ⟨rfl, rfl, hM2, hO2⟩ := hcut
                have HR2 : Hid (RMAt wc rb lb n rd L true time) := HR.out.r2 hO2
                have q1 : wc.cell? ⟨b, off + k * 5 + 1, none⟩ = some (.int .i64 kk) := (hO2.cell (p := ⟨b, off + k * 5 + 1, none⟩) hbl (by have := HR.out.b1; have := HR.out.b2; simp; omega)).trans p1
                have q2 : wc.cell? ⟨b, off + k * 5 + 2, none⟩ = some (.int .i64 rd) := (hO2.cell (p := ⟨b, off + k * 5 + 2, none⟩) hbl (by have := HR.out.b1; have := HR.out.b2; simp; omega)).trans p2
                have q3 : wc.cell? ⟨b, off + k * 5 + 3, none⟩ = some (.int .i64 cc) := (hO2.cell (p := ⟨b, off + k * 5 + 3, none⟩) hbl (by have := HR.out.b1; have := HR.out.b2; simp; omega)).trans p3
                have HM2 := hide hM2
                have HO2 := hide hO2
                have q0 : b < wc.heap.size := Nat.lt_of_lt_of_le hbl hO2.size
                clear hM2 hO2 p0 p1 p2 p3 hbl
                go_upto_region 16 with fail
                go_cut [15, 16] (fun r e wx => r = .bool false ∧ e = .int .i64 0 ∧ MM w wx qb tb rb lb n rd T' L' true x time)
                case first =>
                  go_region_held3 (fun w' => w'.cell? ⟨b, off + k * 5 + 1, none⟩ = some (.int .i64 kk) ∧ w'.cell? ⟨b, off + k * 5 + 2, none⟩ = some (.int .i64 rd) ∧ w'.cell? ⟨b, off + k * 5 + 3, none⟩ = some (.int .i64 cc)) (first | exact ⟨q1, q2, q3⟩ | exact unhide HKP | go_keep) (first | (go_at_call 30; (with_reducible refine Calls.mono (rreport_ok (L' := L') (b := false) (y := time) HR2.out.drew (by omega) HKN.out HT.out HLk.out (unhide HLe) (unhide HBD2) (if_neg (by simp))) ?_); rintro e w3 ⟨rfl, hR3, hO3⟩; have HKP := hide (And.intro ((hO3.cell (p := ⟨b, off + k * 5 + 1, none⟩) q0 hno2).trans q1) (And.intro ((hO3.cell (p := ⟨b, off + k * 5 + 2, none⟩) q0 hno2).trans q2) ((hO3.cell (p := ⟨b, off + k * 5 + 3, none⟩) q0 hno2).trans q3))); have HX3 : Hid (MM w w3 qb tb rb lb n rd T' L' true x time) := HR.out.step (unhide HM2) (unhide HO2) hR3 hO3.undrew (fun _ => HS2.out); clear hR3 hO3))
                  all_goals
                    go_wp2_with fail
                    go_meet
                    exact ⟨rfl, rfl, HX3.out⟩
                case rest =>
                  obtain ⟨rfl, rfl, hX⟩ := hcut
                  have HX3 := hide hX
                  clear hX q1 q2 q3 q0
                  go_wp2_with fail
                  go_meet
                  exact ⟨rfl, tb, rd, T', L', true, x, time, h0, by omega, unhide HX3⟩
          · have HC1 : Hid (repCode n rd told run a bb cc ≠ 0) := hcd
            have HC2 : Hid (repCode n rd (rTold L) run a bb cc ≠ 0) := by show repCode n rd (rTold L) run a bb cc ≠ 0; rw [hceq]; exact hcd
            obtain ⟨cd, hcd'⟩ : ∃ cd, repCode n rd told run a bb cc = cd := ⟨_, rfl⟩
            rw [hcd'] at hceq
            have e4 : (cd != cd) = false := by simp
            have H29 : Hid (∀ W q, MAt W qb tb n rd told run least time → Calls Try.prog 29 #[.pointer (some ⟨qb, 0, none⟩), .int .i64 a, .int .i64 bb, .int .i64 cc] (W.drewN q) fun e w' => e = .returned (.tuple #[.bool false, .int .i64 cd]) ∧ ∃ z, w' = W.drewN z) := fun W q h => by
              have h' := report_bad (h.drewN q) (by omega) HC1.out
              rw [hcd'] at h'
              exact h'.mono (by rintro e w' ⟨rfl, rfl⟩; exact ⟨rfl, q, rfl⟩)
            have H30 : Hid (∀ W q, RMAt W rb lb n rd L run time → Calls Try.prog 30 #[.pointer (some ⟨rb, 0, none⟩), .int .i64 a, .int .i64 bb, .int .i64 cc] (W.drewN q) fun e w' => e = .returned (.tuple #[.bool false, .int .i64 cd]) ∧ ∃ z, w' = W.drewN z) := fun W q h => by
              have h' := rreport_bad (h.drewN q) (by omega) HC2.out
              rw [hceq] at h'
              exact h'.mono (by rintro e w' ⟨rfl, rfl⟩; exact ⟨rfl, q, rfl⟩)
            have er : Hid (RMAt wr rb lb n rd L run time) := HR.out.r
            have em : Hid (MAt wr qb tb n rd told run least time) := HR.out.m
            clear hcd hceq hrel hcd'
            go_wp2_with fail
            go_quiet ((go_at_call 29; (first | exact H29.out _ _ em.out | exact H29.out _ _ (em.out.drewN _))))
            go_wp2_with fail
            have HR9 : Hid (MM w (wr.drewN nq) qb tb rb lb n rd told L run least time) := HR.out.quiet ⟨rfl, rfl, rfl, Nat.le_refl _, fun _ _ _ => rfl⟩
            have k1 : (wr.drewN nq).cell? ⟨b, off + k * 5 + 1, none⟩ = some (.int .i64 a) := p1
            have k2 : (wr.drewN nq).cell? ⟨b, off + k * 5 + 2, none⟩ = some (.int .i64 bb) := p2
            have k3 : (wr.drewN nq).cell? ⟨b, off + k * 5 + 3, none⟩ = some (.int .i64 cc) := p3
            have k0 : b < (wr.drewN nq).heap.size := hbl
            generalize wr.drewN nq = wz at HR9 k1 k2 k3 k0 ⊢
            have er : Hid (RMAt wz rb lb n rd L run time) := HR9.out.r
            clear p0 p1 p2 p3 hbl
            go_quiet ((go_at_call 30; (first | exact H30.out _ _ er.out | exact H30.out _ _ (er.out.drewN _))))
            go_wp2_with fail
            go_meet
            exact ⟨rfl, tb, rd, told, L, run, least, time, h0, by omega, HR9.out.quiet ⟨rfl, rfl, rfl, Nat.le_refl _, fun _ _ _ => rfl⟩⟩
      case rest =>
       as_aux_lemma =>
        clear HR tb rd told L run least time h0 hrk
        obtain ⟨rfl, tb, rd, told, L, run, least, time, h0, hrk, hX⟩ := hcut
        have HX := hide hX
        clear hX
        have H21 : Hid (∀ W q, MAt W qb tb n rd told run least time → Calls Try.prog 21 #[.pointer (some ⟨qb, 0, none⟩)] (W.drewN q) fun e w' => e = .returned (.int .i64 time) ∧ ∃ z, w' = W.drewN z) := fun W q h => (mtime_any (h.drewN q)).mono (by rintro e w' ⟨rfl, rfl⟩; exact ⟨rfl, q, rfl⟩)
        have H24 : Hid (∀ W q, MAt W qb tb n rd told run least time → Calls Try.prog 24 #[.pointer (some ⟨qb, 0, none⟩)] (W.drewN q) fun e w' => e = .returned (.bool run) ∧ ∃ z, w' = W.drewN z) := fun W q h => (running_any (h.drewN q)).mono (by rintro e w' ⟨rfl, rfl⟩; exact ⟨rfl, q, rfl⟩)
        have H31 : Hid (∀ W q, MAt W qb tb n rd told run least time → Calls Try.prog 31 #[.pointer (some ⟨qb, 0, none⟩)] (W.drewN q) fun e w' => e = .returned (.int .i64 rd) ∧ ∃ z, w' = W.drewN z) := fun W q h => (rounds_any (h.drewN q)).mono (by rintro e w' ⟨rfl, rfl⟩; exact ⟨rfl, q, rfl⟩)
        have r1 := HX.out.r.c1
        have r2 := HX.out.r.c2
        have r3 := HX.out.r.c3
        have r0 := HX.out.r.lt
        have e1 : (time != time) = false := by simp
        have e2 : (rd != rd) = false := by simp
        have e3 : (run != run) = false := by simp
        have em : Hid (MAt wc qb tb n rd told run least time) := HX.out.m
        clear p0 p1 p2 p3
        go_wp2_with fail
        go_quiet ((first | (go_at_call 21; (first | exact H21.out _ _ em.out | exact H21.out _ _ (em.out.drewN _))) | (go_at_call 24; (first | exact H24.out _ _ em.out | exact H24.out _ _ (em.out.drewN _))) | (go_at_call 31; (first | exact H31.out _ _ em.out | exact H31.out _ _ (em.out.drewN _)))))
        go_wp2_with fail
        exact ⟨⟨k + 1, tb, _, _, _, _, _, _, hlt, by go_num, by omega, by omega, HX.out.quiet ⟨rfl, rfl, rfl, Nat.le_refl _, fun _ _ _ => rfl⟩⟩, by simp [intOf]; omega⟩
    · obtain rfl : k = m := by omega
      clear hR
      have g2 : decide (k < k) = false := by simp
      go_wp2_with fail
      refine (awake_any _).mono ?_
      rintro e w3 ⟨rfl, hb3⟩
      have HB3 : Hid (Below wr.heap.size wr w3) := hb3
      clear hb3
      go_wp2_with fail
      go_ret
      exact ⟨rfl, HR.out.bl.trans (HB3.out.mono HR.out.bl.size)⟩
end Go.Proofs.Ytdommbaljchofaa
