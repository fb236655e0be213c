/-
  The walk of boomeranglaw01.SlabTurns.
-/
import Derived.Test.YtegnbodolkaelaaA
import Derived.Test.YtegnbodolkaelaaH
namespace Go.Proofs.Ytegnbodolkaelaa
open Go.RowKit Go.Deep
set_option linter.unusedVariables false

theorem hide {p : Prop} (h : p) : Hid p := h
theorem unhide {p : Prop} (h : Hid p) : p := h

/-- What holds at every round's head. -/
structure TR (W w : World) (n sb lb fb cap tb k : Nat) (S : Sl) (L : List (Nat × Int)) (F : Nat) (A : Option Addr) (c : Nat) : Prop where
  ti : TI n k S L F
  at_ : At w sb lb fb cap S
  own : OwnsH w W.heap.size A c L
  tr : w.rowIs tb 3 n (fun j => .int .i64 (S.tn j))
  bl : Below W.heap.size W w
  b1 : W.heap.size ≤ sb
  b2 : W.heap.size ≤ lb
  b3 : W.heap.size ≤ fb
  b4 : W.heap.size ≤ tb
  ne : tb ∉ [sb, lb, fb]

theorem TR.skip {W w w' : World} {n sb lb fb cap tb k : Nat} {S : Sl} {L : List (Nat × Int)} {F : Nat} {A : Option Addr} {c : Nat} (h : TR W w n sb lb fb cap tb k S L F A c) (ho : Only [] w w') : TR W w' n sb lb fb cap tb (k + 1) S L F A c :=
  ⟨h.ti.skip, h.at_.only0 ho, h.own.only ho (by simp), ho.row h.tr (by simp), Only.to_below h.bl ho (by simp) h.bl.size, h.b1, h.b2, h.b3, h.b4, h.ne⟩

theorem TR.take {W w w2 w3 : World} {n sb lb fb cap tb k : Nat} {S : Sl} {L : List (Nat × Int)} {F : Nat} {A : Option Addr} {d : Nat} (h : TR W w n sb lb fb cap tb k S L F A d) {i : Nat} {c t v : Int} {X Z : Obj} {v' : Value}
    (h1 : 1 ≤ c) (h4 : c ≤ 4) (hm : 0 < S.m) (hi : S.fr (S.m - 1) = i) (ht : S.tn i = t) (hA2 : At w2 sb lb fb cap (S.taken c v)) (ho : Only [sb, lb, fb] (w.alloc X) w2)
    (hown : w3.ownsRow W.heap.size 32 2 v' (L.length + 1) (hs L ++ [.int .i64 i, .int .i64 (t + 1)])) (hg : ((w2.setCell ⟨tb, i, none⟩ (.int .i64 (t + 1))).alloc Z).grownBy w3 (Value.ownBlock (.slice A L.length d))) :
    ∃ A' d', v' = .slice A' (L.length + 1) d' ∧ TR W w3 n sb lb fb cap tb (k + 1) (S.taken c v) (L ++ [(i, t + 1)]) (F - 1) A' d' := by
  obtain ⟨A', d', rfl⟩ := owns_form hown
  refine ⟨A', d', rfl, ?_⟩
  subst hi ht
  have hg' := only_grown hg
  have hnin := h.own.notin h.at_
  have hnt := owns_row_ne h.own h.tr (by decide)
  have hne := h.ne
  simp only [List.mem_cons, List.not_mem_nil, or_false, not_or] at hne
  have hin : ∀ b, b ∈ (Value.ownBlock (.slice A L.length d)).toList → Value.ownBlock (.slice A L.length d) = some b := fun b hb => by simpa [Option.mem_toList] using hb
  have hnot : ∀ b ∈ [sb, lb, fb], b ∉ (Value.ownBlock (.slice A L.length d)).toList := fun b hb hb2 => hnin b (hin b hb2) hb
  refine ⟨h.ti.take h1 h4 hm, ?_, ?_, ?_, ?_, h.b1, h.b2, h.b3, h.b4, h.ne⟩
  · refine At.only ?_ hg' (hnot _ (by simp)) (hnot _ (by simp)) (hnot _ (by simp))
    exact (hA2.far (fun e => hne.1 e.symm) (fun e => hne.2.1 e.symm) (fun e => hne.2.2 e.symm) _).alloc Z
  · unfold OwnsH
    rw [hs_append, List.length_append]
    exact hown
  · have hr := ho.row (h.tr.alloc X) h.ne
    refine (hg'.row ((hr.set _ _).alloc Z) (fun hb => hnt tb (hin tb hb) rfl)).congr fun j hj => ?_
    simp only [Sl.taken, upd]
    split <;> rfl
  · have hb1 := h.bl.alloc h.bl.size X
    have hin3 : ∀ b ∈ [sb, lb, fb], W.heap.size ≤ b := by
      simp
      exact ⟨h.b1, h.b2, h.b3⟩
    have hb2 := Only.to_below hb1 ho hin3 hb1.size
    have hb3 := (hb2.setCell (p := ⟨tb, S.fr (S.m - 1), none⟩) h.b4 (.int .i64 (S.tn (S.fr (S.m - 1)) + 1)))
    have hb4 := hb3.alloc hb3.size Z
    exact hb4.grown hg hb4.size (fun b hb => (h.own.lt b hb).1)

theorem TR.free {W w w2 w3 w4 : World} {n sb lb fb cap tb k : Nat} {S : Sl} {L : List (Nat × Int)} {F : Nat} {A : Option Addr} {d : Nat} (h : TR W w n sb lb fb cap tb k S L F A d) {X : Obj} {v1 v2 : Value} {j : Nat} (hj : j < L.length)
    (hA2 : At w2 sb lb fb cap (S.freed (L[j]'hj).1)) (ho : Only [sb, lb, fb] (w.alloc X) w2) (hg1 : w2.grownBy w3 none) (ho1 : w3.ownsRow W.heap.size 32 2 v1 j ((hs L).take (j * 2)))
    (hloc : v1.ownBlock = none ∨ v1.ownBlock = some w2.heap.size) (hg2 : w3.grownBy w4 v1.ownBlock)
    (ho2 : w4.ownsRow W.heap.size 32 2 v2 (j + (L.length - (j + 1))) ((hs L).take (j * 2) ++ (hs L).drop ((j + 1) * 2))) :
    ∃ A' d', v2 = .slice A' (L.eraseIdx j).length d' ∧ TR W w4 n sb lb fb cap tb (k + 1) (S.freed (L[j]'hj).1) (L.eraseIdx j) (F + 1) A' d' := by
  obtain ⟨A', d', rfl⟩ := owns_form ho2
  have hlen : (L.eraseIdx j).length = j + (L.length - (j + 1)) := by rw [List.length_eraseIdx_of_lt hj]; omega
  refine ⟨A', d', by rw [hlen], ?_⟩
  have hk1 : Only [] w2 w3 := Only.of_grown hg1 (by simp)
  have hb2 : ∀ b, v1.ownBlock = some b → w2.heap.size ≤ b := fun b hb => by
    rcases hloc with h0 | h0
    · rw [h0] at hb; cases hb
    · rw [h0] at hb; cases hb; exact Nat.le_refl _
  have hk2 : Only [] w2 w4 := by
    refine ⟨hg2.os.trans hg1.os, hg2.tape.trans hg1.tape, hg2.output.trans hg1.output, Nat.le_trans hg1.size hg2.size, fun i hi _ => ?_⟩
    rw [hg2.block i (Nat.lt_of_lt_of_le hi hg1.size) (fun e => by have := hb2 i e.symm; omega), hg1.block i hi (by simp)]
  have hin3 : ∀ b ∈ [sb, lb, fb], W.heap.size ≤ b := by
    simp
    exact ⟨h.b1, h.b2, h.b3⟩
  refine ⟨h.ti.free hj, hA2.only0 hk2, ?_, ?_, ?_, h.b1, h.b2, h.b3, h.b4, h.ne⟩
  · unfold OwnsH
    rw [hs_erase, hlen]
    exact ho2
  · exact (hk2.row (ho.row (h.tr.alloc X) h.ne) (by simp)).congr fun j hj => rfl
  · have hb1 := h.bl.alloc h.bl.size X
    have hb3 := Only.to_below hb1 ho hin3 hb1.size
    exact Only.to_below hb3 hk2 (by simp) hb3.size

theorem Try.info32 : (Try.prog.info? 32).map (fun i => (i.zero, i.size, i.bytes)) = some (some (.agg #[.int .i64 0, .int .i64 0]), 2, 16) := by kernel_rfl

set_option maxRecDepth 100000 in
set_option maxHeartbeats 2000000 in
theorem turns_main {w : World} {n m c : Nat} {A : Option Addr} {ops : Nat → OpV} (h1 : 1 ≤ n) (h2 : n ≤ 40) (hm : m ≤ 60) (hO : OpsAt w A m ops) :
    Calls Try.prog 3 #[.int .i64 n, .slice A m c] w fun e w' => e = .returned (.bool true) ∧ Below w.heap.size w w' := by
  obtain ⟨i0, hi, hz0, hz1, hz2⟩ := info_parts Try.info32
  have hmk := run_make_row' (P := Try.prog) 29 3 (.int .i64 0) 8 Try.underlying29 Try.info3 rfl .i64 .i64 n (by omega) (by omega)
  have d1 : decide ((n : Int) < 1) = false := by simp; omega
  have d2 : decide (40 < (n : Int)) = false := by simp; omega
  have HO : Hid (OpsAt w A m ops) := hO
  clear hO
  go_enter Try.func3, Try.ntmps3
  go_wp2_with fail
  refine (few_any (by omega)).mono ?_
  rintro e w' ⟨rfl, rfl⟩
  have d3 : decide (m ≤ 60) = true := by simpa using hm
  go_wp2_with fail
  refine (new_ok (n := n) (r := 0) h1 (by omega) (by omega) (by omega)).mono ?_
  rintro e w1 ⟨sb, lb, fb, cap, rfl, hA, hb, b1, b2, b3⟩
  have HA : Hid (At w1 sb lb fb cap (Sl.new n 0)) := hA
  have HB : Hid (Below w.heap.size w w1) := hb
  have hne := hA.notin (Nat.le_refl _)
  have HN : Hid (w1.heap.size ∉ [sb, lb, fb]) := hne
  clear hA hb hne
  go_wp2_with fail
  obtain ⟨tb, htb⟩ : ∃ tb, tb = w1.heap.size := ⟨_, rfl⟩
  go_loopw [8, 9, 10] (fun live freed i wr => ∃ (k : Nat) (S : Sl) (L : List (Nat × Int)) (F : Nat) (B : Option Addr) (d : Nat), k ≤ m ∧ i = .int .i64 k ∧ freed = .int .i64 F ∧ live = .slice B L.length d ∧ TR w wr n sb lb fb cap w1.heap.size k S L F B d) (fun _ _ i _ => m - (intOf i).toNat)
  case atStart =>
    refine ⟨0, Sl.new n 0, [], 0, none, 0, Nat.zero_le _, rfl, rfl, rfl, TI.start h1 (by omega), HA.out.alloc _, OwnsH.nil _ _, ?_, HB.out.alloc HB.out.size _, b1, b2, b3, HB.out.size, HN.out⟩
    exact (World.rowIs_made _ _ _ _).congr fun _ _ => rfl
  case round =>
    obtain ⟨k, S, L, F, B, d, hk, rfl, rfl, rfl, hR⟩ := hrel
    have HR : Hid (TR w wr n sb lb fb cap w1.heap.size k S L F B d) := hR
    have hLn : L.length ≤ 40 := by have := hR.ti.lv.cnt; have := hR.ti.n; omega
    have hFn : F ≤ 60 := by have := hR.ti.f; have := hR.ti.inv.mn; have := hR.ti.n; omega
    by_cases hlt : k < m
    · obtain ⟨b, off, rfl, hbl, hw, p0, p1, p2, p3, p4, p5, p6⟩ := (HO.out.below ⟨hR.bl.os, hR.bl.tape, hR.bl.output, hR.bl.size, hR.bl.block⟩) k hlt
      clear hR
      by_cases h0 : (ops k).ask = 0
      · rw [h0] at p0
        by_cases hcls : (ops k).cls < 1 ∨ 4 < (ops k).cls
        · go_wp2_with fail
          refine (take_arg (HR.out.at_.alloc _) hcls).mono ?_
          rintro e w2 ⟨rfl, ho⟩
          have HS : Hid (TR w w2 n sb lb fb cap w1.heap.size (k + 1) S L F B d) := HR.out.skip (((Only.refl _ _).alloc _).trans ho)
          clear ho
          go_wp2_with fail
          exact ⟨⟨k + 1, S, L, F, B, d, hlt, by go_num, rfl, rfl, ⟨HS.out.ti, HS.out.at_.alloc _, HS.out.own.alloc _, HS.out.tr.alloc _, HS.out.bl.alloc HS.out.bl.size _, b1, b2, b3, HB.out.size, HN.out⟩⟩, by simp [intOf]; omega⟩
        · have hc14 : 1 ≤ (ops k).cls ∧ (ops k).cls ≤ 4 := by omega
          clear hcls
          by_cases hm0 : S.m = 0
          · go_wp2_with fail
            refine (take_full (HR.out.at_.alloc _) hc14.1 hc14.2 (.inl hm0)).mono ?_
            rintro e w2 ⟨rfl, ho⟩
            have HS : Hid (TR w w2 n sb lb fb cap w1.heap.size (k + 1) S L F B d) := HR.out.skip (((Only.refl _ _).alloc _).trans ho)
            clear ho hm0
            go_wp2_with fail
            exact ⟨⟨k + 1, S, L, F, B, d, hlt, by go_num, rfl, rfl, ⟨HS.out.ti, HS.out.at_.alloc _, HS.out.own.alloc _, HS.out.tr.alloc _, HS.out.bl.alloc HS.out.bl.size _, b1, b2, b3, HB.out.size, HN.out⟩⟩, by simp [intOf]; omega⟩
          · obtain ⟨q, hq⟩ : ∃ q : Nat, (ops k).cls = (q : Int) := ⟨(ops k).cls.toNat, by omega⟩
            rw [hq] at p1 hc14
            have HQ : Hid ((ops k).cls = (q : Int)) := hq
            have hmp : 0 < S.m := by omega
            clear hq hm0
            go_wp2_with fail
            refine (take_ok (k := q) (v := (ops k).v) (u := (ops k).urg) (HR.out.at_.alloc _) HR.out.ti.inv HR.out.ti.bd (by omega) (by omega) (by omega) hmp (.inr (by rw [HR.out.ti.r0]; omega))).mono ?_
            rintro e w2 ⟨rfl, hA2, ho⟩
            have hin := HR.out.ti.inv.fr (S.m - 1) (by omega)
            rw [HR.out.ti.n] at hin
            have htop := HR.out.ti.top hmp
            have hbt := HR.out.ti.bd.1 (S.fr (S.m - 1))
            have htr := ho.row (HR.out.tr.alloc _) HN.out
            have hl2 := hA2.hd.lt
            generalize hgi : S.fr (S.m - 1) = i at *
            generalize hgt : S.tn i = t at *
            have ht1 : w2.cell? ⟨w1.heap.size, i, none⟩ = some (.int .i64 t) := by rw [htr.cell hin, hgt]
            have ht2 := htr.frozen i
            have ht3 := htr.lt
            have HI : Hid (S.fr (S.m - 1) = i) := hgi
            have HT : Hid (S.tn i = t) := hgt
            have HA2 : Hid (At w2 sb lb fb cap (S.taken q (ops k).v)) := hA2
            have HO2 : Hid (Only [sb, lb, fb] (wr.alloc (.cells #[.int .i64 0, .int .i64 q, .bool (ops k).urg, .int .i64 (ops k).v, .int .i64 (ops k).pl, .int .i64 (ops k).hs, .int .i64 (ops k).ht] 34)) w2) := ho
            have HW : Hid (w2.ownsRow w.heap.size 32 2 (.slice B L.length d) L.length (hs L)) := ho.owns (HR.out.own.alloc _) (HR.out.own.notin HR.out.at_)
            have HL : Hid (Value.ownBlock (.slice B L.length d) ≠ some w1.heap.size) := fun e => owns_row_ne HR.out.own HR.out.tr (by decide) _ e rfl
            have hws : w.heap.size ≤ w2.heap.size := by have := HR.out.bl.size; have := ho.size; simp at this; omega
            have g1 : decide ((i : Int) < 0) = false := by simp
            have g2 : decide (n ≤ i) = false := by simp; omega
            have g3 : (t + 1 != t + 1) = false := by simp
            clear hgi hgt hA2 ho htr p0 p1 p2 p3 p4 p5 p6
            by_cases hF : F = 0
            · have ht0 : t = 0 := htop.2 hF
              subst hF ht0
              clear htop
              go_wp2_with fail
              go_quiet (fail)
              go_wp2_with (at_builtin; refine wpList_append_own_at _ rfl _ _ 30 rfl w.heap.size 32 i0 (.agg #[.int .i64 0, .int .i64 0]) 2 16 Try.underlying30 hi hz0 hz1 hz2 rfl (by decide) _ _ _ rfl ((own_far (HW.out.alloc _) HL.out _).alloc _) ⟨w2.heap.size + 1, 0, none⟩ 1 1 [.int .i64 i, .int .i64 1] rfl rfl ?c1 ?c2 ?c3 ?c4 ?c5 ?_)
              case c1 => exact new_cells _ #[.int .i64 i, .int .i64 1] 32 _ (by simp)
              case c2 => intro u hu; simp at hu; rcases hu with rfl | rfl <;> rfl
              case c3 => unfold maxLen; omega
              case c4 => omega
              case c5 => simp; omega
              intro v' w3 hown hgrow _ _
              obtain ⟨A', d', rfl, hT⟩ := HR.out.take (by omega) (by omega) (by omega) HI.out HT.out ((HA2.out.alloc (.cells #[.int .i64 i, .int .i64 1] 32)).drewN nq) (((HO2.out.alloc (.cells #[.int .i64 i, .int .i64 1] 32))).drewN nq) hown hgrow
              have HT' : Hid (TR w w3 n sb lb fb cap w1.heap.size (k + 1) (S.taken q (ops k).v) (L ++ [(i, 0 + 1)]) (0 - 1) A' d') := hT
              clear hT hown hgrow
              go_wp2_with fail
              exact ⟨⟨k + 1, _, _, 0, A', d', hlt, by go_num, rfl, by rw [List.length_append]; rfl, HT'.out⟩, by simp [intOf]; omega⟩
            · have ht0 : t ≠ 0 := fun e => hF (htop.1 e)
              have g4 : (t + 1 == 1) = false := by simp; omega
              have g5 : decide (1 < t + 1) = true := by simp; omega
              have g6 : decide (0 < F) = true := by simp; omega
              clear htop
              go_wp2_with fail
              go_quiet (fail)
              go_wp2_with (at_builtin; refine wpList_append_own_at _ rfl _ _ 30 rfl w.heap.size 32 i0 (.agg #[.int .i64 0, .int .i64 0]) 2 16 Try.underlying30 hi hz0 hz1 hz2 rfl (by decide) _ _ _ rfl ((own_far (HW.out.alloc _) HL.out _).alloc _) ⟨w2.heap.size + 1, 0, none⟩ 1 1 [.int .i64 i, .int .i64 (t + 1)] rfl rfl ?c1 ?c2 ?c3 ?c4 ?c5 ?_)
              case c1 => exact new_cells _ #[.int .i64 i, .int .i64 (t + 1)] 32 _ (by simp)
              case c2 => intro u hu; simp at hu; rcases hu with rfl | rfl <;> rfl
              case c3 => unfold maxLen; omega
              case c4 => omega
              case c5 => simp; omega
              intro v' w3 hown hgrow _ _
              obtain ⟨A', d', rfl, hT⟩ := HR.out.take (by omega) (by omega) (by omega) HI.out HT.out ((HA2.out.alloc (.cells #[.int .i64 i, .int .i64 (t + 1)] 32)).drewN nq) (((HO2.out.alloc (.cells #[.int .i64 i, .int .i64 (t + 1)] 32))).drewN nq) hown hgrow
              have HT' : Hid (TR w w3 n sb lb fb cap w1.heap.size (k + 1) (S.taken q (ops k).v) (L ++ [(i, t + 1)]) (F - 1) A' d') := hT
              clear hT hown hgrow
              go_wp2_with fail
              exact ⟨⟨k + 1, _, _, F - 1, A', d', hlt, by go_num, by go_num, by rw [List.length_append]; rfl, HT'.out⟩, by simp [intOf]; omega⟩
      · have h0b : ((ops k).ask == 0) = false := by simpa using h0
        by_cases hL0 : L.length = 0
        · have HL0 : Hid (L.length = 0) := hL0
          have hL0b : decide (0 < L.length) = false := by rw [hL0]; rfl
          have hLle : L.length ≤ 0 := by omega
          have HS : Hid (TR w (wr.alloc (.cells #[.int .i64 (ops k).ask, .int .i64 (ops k).cls, .bool (ops k).urg, .int .i64 (ops k).v, .int .i64 (ops k).pl, .int .i64 (ops k).hs, .int .i64 (ops k).ht] 34)) n sb lb fb cap w1.heap.size (k + 1) S L F B d) := HR.out.skip ((Only.refl _ _).alloc _)
          clear hL0
          go_wp2_with fail
          exact ⟨⟨k + 1, S, L, F, B, d, hlt, by go_num, rfl, rfl, HS.out⟩, by simp [intOf]; omega⟩
        · have hLp : 0 < L.length := by omega
          have hj := pick_lt (x := (ops k).pl) hLp
          have hje := pick_eq (x := (ops k).pl) hLp
          obtain ⟨g, hB, hgB, hgl, hgd, hgc⟩ := HR.out.own.at_ hLp
          generalize hpj : pick (ops k).pl L.length = j at hj hje
          obtain ⟨c0, c1⟩ := hgc j hj
          have hok := HR.out.ti.lv.ok _ (List.getElem_mem hj)
          have hcl := HR.out.ti.inv.cl4 (L[j]'hj).1
          have hw1 : -(L.length : Int) < (ops k).pl.tmod L.length := Int.lt_tmod_of_pos _ (by omega)
          have hw2 : (ops k).pl.tmod L.length < L.length := Int.tmod_lt_of_pos _ (by omega)
          subst hB
          have HLp : Hid (0 < L.length) := hLp
          have hLb : decide ((L.length : Int) > 0) = true := by simp; omega
          obtain ⟨q, hq⟩ : ∃ q : Nat, S.cl (L[j]'hj).1 = (q : Int) := ⟨(S.cl (L[j]'hj).1).toNat, by omega⟩
          obtain ⟨hk1, hk2, hk3, hk4⟩ := hok
          have hrm := HR.out.ti.lv.room hLp
          rw [← hk3] at c1
          obtain ⟨z, hz⟩ : ∃ z, z = (L[j]'hj).1 := ⟨_, rfl⟩
          rw [← hz] at c0 c1 hk1 hk2 hq hcl
          have HZ : Hid ((L[j]'hj).1 = z) := hz.symm
          have HE : Hid (z < S.n ∧ S.cl z = (q : Int) ∧ 1 ≤ q ∧ q ≤ 4 ∧ S.m < S.n) := ⟨hk1, hq, by omega, by omega, hrm⟩
          clear hk1 hk2 hk3 hk4 hq hrm hcl hz hgc
          generalize htz : S.tn z = tz at c1
          have HTZ : Hid (S.tn z = tz) := htz
          clear htz
          go_wp2_with fail
          rw [← HTZ.out]
          refine (free_ok (i := z) (k := q) (HR.out.at_.alloc _) HR.out.ti.inv.n2 HR.out.ti.bd (by omega) HE.out.1 HE.out.2.1 HE.out.2.2.1 HE.out.2.2.2.1 HE.out.2.2.2.2).mono ?_
          rintro e w2 ⟨rfl, hA2, ho⟩
          have HA2 : Hid (At w2 sb lb fb cap (S.freed (L[j]'hj).1)) := by rw [HZ.out]; exact hA2
          have HO2 : Hid (Only [sb, lb, fb] (wr.alloc (.cells #[.int .i64 (ops k).ask, .int .i64 (ops k).cls, .bool (ops k).urg, .int .i64 (ops k).v, .int .i64 (ops k).pl, .int .i64 (ops k).hs, .int .i64 (ops k).ht] 34)) w2) := ho
          have HW : Hid (w2.ownsRow w.heap.size 32 2 (.slice (some ⟨g, 0, none⟩) L.length d) L.length (hs L)) := ho.owns (HR.out.own.alloc _) (HR.out.own.notin HR.out.at_)
          have hws : w.heap.size ≤ w2.heap.size := by have := HR.out.bl.size; have := ho.size; simp at this; omega
          have hgl2 : g < w2.heap.size := by have := ho.size; simp at this; omega
          have hjd : j ≤ d := by omega
          have hjd1 : j + 1 ≤ L.length := by omega
          have HGL : Hid (g < w2.heap.size) := hgl2
          have HLE : Hid ((hs L).length = L.length * 2) := hs_length L
          have HCUT : Hid ((if d = j + 1 then some (⟨g, 0, none⟩ : Addr) else some ⟨g, (j + 1) * 2, none⟩) = some (cutAt g ((j + 1) * 2) d (j + 1))) := cut_is _ _ _ _
          clear hA2 ho c0 c1 p0 p1 p2 p3 p4 p5 p6 hgl2
          go_wp2_with (first | (at_builtin; refine wpList_append_own_at _ rfl (.tmp 140) (.tmp 143) 30 rfl w.heap.size 32 i0 (.agg #[.int .i64 0, .int .i64 0]) 2 16 Try.underlying30 hi hz0 hz1 hz2 rfl (by decide) (.slice none 0 0) 0 [] rfl (World.ownsRow_nil _ _ _ _) ⟨g, 0, none⟩ j d ((hs L).take (j * 2)) rfl (by have := HLE.out; simp; omega) (own_head HW.out _) (fun u hu => hs_one L u (List.mem_of_mem_take hu)) (by unfold maxLen; omega) (by omega) (by omega) ?_; intro v1 w3 hown1 hgrow1 _ hloc1; simp only [Nat.zero_add, List.nil_append] at hown1; have HG1 := hide hgrow1; have HW1 := hide hown1; have HL1 := hide hloc1; have HS3 := hgrow1.size; clear hgrow1 hown1 hloc1) | (at_builtin; refine wpList_append_own_at _ rfl (.tmp 145) (.tmp 149) 30 rfl w.heap.size 32 i0 (.agg #[.int .i64 0, .int .i64 0]) 2 16 Try.underlying30 hi hz0 hz1 hz2 rfl (by decide) _ j _ rfl (unhide HW1) (cutAt g ((j + 1) * 2) d (j + 1)) (L.length - (j + 1)) (d - (j + 1)) ((hs L).drop ((j + 1) * 2)) (congrArg (fun A => Value.slice A (L.length - (j + 1)) (d - (j + 1))) HCUT.out) (by have := HLE.out; simp; omega) (own_tail (HW.out.kept (unhide HG1) (.inr (by intro e; cases e))) hgd _) (fun u hu => hs_one L u (List.mem_of_mem_drop hu)) (by unfold maxLen; omega) (by omega) (by omega) ?_; intro v2 w4 hown2 hgrow2 _ _))
          obtain ⟨A', d', hv, hT⟩ := HR.out.free hj HA2.out HO2.out (unhide HG1) (unhide HW1) (unhide HL1) hgrow2 hown2
          exact ⟨⟨k + 1, _, _, F + 1, A', d', hlt, by go_num, by go_num, hv, hT⟩, by simp [intOf]; omega⟩
    · obtain rfl : k = m := by omega
      have hcnt : Hid ((S.n : Int) - S.m = L.length) := by have := hR.ti.lv.cnt; show (S.n : Int) - S.m = L.length; omega
      clear hR
      go_wp2_with fail
      refine (live_all HR.out.at_ HR.out.ti.inv HR.out.ti.bd (by omega)).mono ?_
      rintro e w2 ⟨rfl, rfl⟩
      rw [hcnt.out]
      go_wp2_with fail
      refine (awake_any _).mono ?_
      rintro e w3 ⟨rfl, hb3⟩
      have HB3 : Hid (Below wr.heap.size wr w3) := hb3
      clear hb3
      go_wp2_with fail
      go_ret
      exact ⟨rfl, HR.out.bl.trans (HB3.out.mono HR.out.bl.size)⟩
end Go.Proofs.Ytegnbodolkaelaa
