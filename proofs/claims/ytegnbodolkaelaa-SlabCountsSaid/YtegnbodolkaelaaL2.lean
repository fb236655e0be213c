/-
  The walk of boomeranglaw01.SlabCounts.
-/
import Derived.Test.YtegnbodolkaelaaP2
import Derived.Test.YtegnbodolkaelaaG2
import Derived.Test.YtegnbodolkaelaaL1
import Derived.Deep.RegionWith
import Derived.Deep.RegionHeld3
import Derived.Deep.LoopGhost
import Derived.Deep.DeepCutAuto
namespace Go.Proofs.Ytegnbodolkaelaa
open Go.RowKit Go.Deep
set_option linter.unusedVariables false

set_option maxRecDepth 100000 in
set_option maxHeartbeats 8000000 in
theorem counts_main {w : World} {n m c : Nat} {r : Int} {A : Option Addr} {ops : Nat → OpV} (h1 : 1 ≤ n) (h2 : n ≤ 40) (r0 : 0 ≤ r) (r1 : r ≤ n) (hm : m ≤ 60) (hO : OpsAt w A m ops) :
    Calls Try.prog 4 #[.agg #[.int .i64 n, .int .i64 r], .slice A m c] w fun e w' => e = .returned (.bool true) ∧ Below w.heap.size w w' := by
  obtain ⟨i0, hi, hz0, hz1, hz2⟩ := info_parts Try.info32
  have d1 : decide ((n : Int) < 1) = false := by simp; omega
  have d2 : decide (40 < (n : Int)) = false := by simp; omega
  have d4 : decide (r < 0) = false := by simp; omega
  have d5 : decide ((n : Int) < r) = false := by simp; omega
  have HO : Hid (OpsAt w A m ops) := hO
  clear hO
  go_enter Try.func4, Try.ntmps4
  go_wp2_with fail
  refine (few_any (by omega)).mono ?_
  rintro e w' ⟨rfl, rfl⟩
  have d3 : decide (m ≤ 60) = true := by simpa using hm
  go_wp2_with fail
  refine (new_ok (n := n) (r := r) (by omega) (by omega) r0 r1).mono ?_
  rintro e w0 ⟨sb, lb, fb, cap, rfl, hA, hb, b1, b2, b3⟩
  rw [World.size_alloc] at b1 b2 b3
  have hxr : (w.alloc (.cells #[.int .i64 n, .int .i64 r] 41)).rowIs w.heap.size 41 2 (hF n r) := by
    have h := World.rowIs_alloc w #[.int .i64 n, .int .i64 r] 41 (hF n r) (by
      intro i hi
      simp at hi
      rcases (show i = 0 ∨ i = 1 by omega) with rfl | rfl <;> rfl)
    simpa using h
  have hxr0 := (Only.of_below hb []).row hxr (by simp)
  have hbw : Below w.heap.size w w0 := ((Below.refl _ _).alloc (Nat.le_refl _) _).trans (hb.mono (by simp))
  have HC : Hid (CM w w0 sb lb fb cap w.heap.size n r (Sl.new n r) [] none 0 [] none 0) := ⟨hA, OwnsH.nil _ _, OwnsH.nil _ _, by simp [Value.ownBlock], hxr0, hbw, by omega, by omega, by omega⟩
  have HI : Hid (CI n 0 r (Sl.new n r) [] []) := CI.start h1 (by omega)
  clear hA hb hxr hxr0 hbw
  go_wp2_with fail
  obtain ⟨xb, hxb⟩ : ∃ xb, xb = w.heap.size := ⟨_, rfl⟩
  go_loopg [7, 8, 9] m (fun g lv dd i wr => ∃ (k : Nat) (S : Sl) (L : List (Nat × Int)) (B : Option Addr) (d : Nat) (D : List (Nat × Int)) (B2 : Option Addr) (d2 : Nat), k + g = m ∧ i = .int .i64 k ∧ lv = .slice B L.length d ∧ dd = .slice B2 D.length d2 ∧ CI n k r S L D ∧ CM w wr sb lb fb cap w.heap.size n r S L B d D B2 d2)
  case atStart => exact ⟨0, _, [], none, 0, [], none, 0, by omega, rfl, rfl, rfl, HI.out, HC.out⟩
  case round =>
    obtain ⟨k, S, L, B, d, D, B2, d2, hkg, rfl, rfl, rfl, hI, hC⟩ := hrel
    have HC' : Hid (CM w wr sb lb fb cap w.heap.size n r S L B d D B2 d2) := hC
    have HI' : Hid (CI n k r S L D) := hI
    have hLn : L.length ≤ 40 := by have := hI.lv.cnt; have := hI.n; omega
    have hDk : D.length ≤ k := hI.dl
    have hmn : S.m ≤ n := by have := hI.inv.mn; have := hI.n; omega
    by_cases hlt : k < m
    · obtain ⟨b, off, rfl, hbl, hw, p0, p1, p2, p3, p4, p5, p6⟩ := (HO.out.below ⟨hC.bl.os, hC.bl.tape, hC.bl.output, hC.bl.size, hC.bl.block⟩) k hlt
      clear hI hC
      go_upto_if 82 with (go_at_call 12; refine (left_any (HC'.out.at_.alloc _)).mono ?_; rintro e w' ⟨rfl, rfl⟩)
      go_cut [7, 8] (fun lv dd wc => ∃ (S : Sl) (L : List (Nat × Int)) (B : Option Addr) (d : Nat) (D : List (Nat × Int)) (B2 : Option Addr) (d2 : Nat), lv = .slice B L.length d ∧ dd = .slice B2 D.length d2 ∧ CI n (k + 1) r S L D ∧ CM w wc sb lb fb cap w.heap.size n r S L B d D B2 d2)
      case first =>
       as_aux_lemma =>
        by_cases h0 : (ops k).ask = 0
        · as_aux_lemma =>
          rw [h0] at p0
          by_cases hcls : (ops k).cls < 1 ∨ 4 < (ops k).cls
          · go_wp2_with fail
            refine (take_arg (HC'.out.at_.alloc _) hcls).mono ?_
            rintro e w2 ⟨rfl, ho⟩
            have HS : Hid (CM w w2 sb lb fb cap w.heap.size n r S L B d D B2 d2) := HC'.out.quiet (((Only.refl _ _).alloc _).trans ho)
            clear ho p0 p1 p2 p3 p4 p5 p6 hcls
            go_wp2_with fail
            go_meet
            exact ⟨S, L, B, d, D, B2, d2, rfl, rfl, HI'.out.skip, HS.out.quiet ((Only.refl _ _).alloc _)⟩
          · have hc14 : 1 ≤ (ops k).cls ∧ (ops k).cls ≤ 4 := by omega
            clear hcls
            by_cases hf : S.m = 0 ∨ ((ops k).urg = false ∧ (S.m : Int) ≤ S.res)
            · go_wp2_with fail
              refine (take_full (HC'.out.at_.alloc _) hc14.1 hc14.2 hf).mono ?_
              rintro e w2 ⟨rfl, ho⟩
              have HS : Hid (CM w w2 sb lb fb cap w.heap.size n r S L B d D B2 d2) := HC'.out.quiet (((Only.refl _ _).alloc _).trans ho)
              clear ho hf p0 p1 p2 p3 p4 p5 p6
              go_wp2_with fail
              go_meet
              exact ⟨S, L, B, d, D, B2, d2, rfl, rfl, HI'.out.skip, HS.out.quiet ((Only.refl _ _).alloc _)⟩
            · have hmp : 0 < S.m := by omega
              have hur : (ops k).urg = true ∨ S.res < S.m := by
                cases hu : (ops k).urg with
                | true => exact .inl rfl
                | false => rw [hu] at hf; exact .inr (by simp at hf; omega)
              have HU : Hid ((ops k).urg = true ∨ r ≤ (S.m : Int) - 1) := by
                have := HI'.out.r
                rcases hur with h | h
                · exact .inl h
                · exact .inr (by omega)
              have HUr : Hid ((ops k).urg = true ∨ S.res < S.m) := hur
              clear hf hur
              go_wp2_with fail
              refine (take_okI (c := (ops k).cls) (v := (ops k).v) (u := (ops k).urg) (HC'.out.at_.alloc _) HI'.out.inv HI'.out.bd (by omega) hc14.1 hc14.2 hmp HUr.out).mono ?_
              rintro e w2 ⟨rfl, hA2, ho⟩
              have hst := (HC'.out.quiet ((Only.refl _ _).alloc _)).step hA2 ho
              have hI2 := HI'.out.take (c := (ops k).cls) (v := (ops k).v) hc14.1 hc14.2 hmp
              have hdn : ∀ p ∈ D, p ≠ (S.fr (S.m - 1), S.tn (S.fr (S.m - 1)) + 1) := fun p hp => HI'.out.dd.new hp
              have hln : ∀ p ∈ L, p.1 ≠ S.fr (S.m - 1) := fun p hp e => (HI'.out.lv.ok p hp).2.1 (by rw [e]; exact HI'.out.inv.cl0 _ (by omega))
              have hb0 := HI'.out.bd.1 (S.fr (S.m - 1))
              obtain ⟨m', hm'⟩ : ∃ m', S.m = m' + 1 := ⟨S.m - 1, by omega⟩
              have hmt : (S.taken (ops k).cls (ops k).v).m = m' := by simp only [Sl.taken]; omega
              have hlw := hA2.hd.lt
              have o2 : w2.cell? ⟨wr.heap.size, 2, none⟩ = some (.bool (ops k).urg) := by
                have hnin := (HC'.out.at_).notin (Nat.le_refl _)
                rw [ho.cell (by simp) hnin]
                simp
              have o3 : wr.heap.size < w2.heap.size := by have := ho.size; simp at this; omega
              generalize hgi : S.fr (S.m - 1) = i at *
              generalize hgt : S.tn i + 1 = t at *
              have H12 : Hid (∀ W q, At W sb lb fb cap (S.taken (ops k).cls (ops k).v) → Calls Try.prog 12 #[.pointer (some ⟨sb, 0, none⟩)] (W.drewN q) fun e w' => e = .returned (.int .i64 m') ∧ ∃ z, w' = W.drewN z) := fun W q h => by
                have h' := left_any (h.drewN q)
                rw [hmt] at h'
                exact h'.mono fun e w' ⟨he, hw⟩ => ⟨he, q, hw.symm⟩
              generalize hS2 : S.taken (ops k).cls (ops k).v = S2 at *
              rw [hm'] at hmn hmp
              have HS2 : Hid (CM w w2 sb lb fb cap w.heap.size n r S2 L B d D B2 d2) := hst
              have HI2 : Hid (CI n (k + 1) r S2 (L ++ [(i, t)]) D) := hI2
              have HDN : Hid (∀ p ∈ D, p ≠ (i, t)) := hdn
              have HLN : Hid (∀ p ∈ L, p.1 ≠ i) := hln
              have HMM : Hid (S.m = m' + 1) := hm'
              have x1 := hF1 hst.xr
              have x2 := hst.xr.lt
              clear hst hI2 hdn hln hA2 ho p0 p1 p2 p3 p4 p5 p6 hm' hmt hgi hgt hS2 hb0
              have g1 : ((S.m : Int) == 0) = false := by have := HMM.out; simp; omega
              have g2 : IntKind.i64.wrap ((S.m : Int) - 1) = (m' : Int) := by have := HMM.out; rw [IntKind.wrap_i64]; omega
              have hcase : (ops k).urg = true ∨ ((ops k).urg = false ∧ decide ((m' : Int) < r) = false) := by
                by_cases hur : (ops k).urg = true
                · exact .inl hur
                · refine .inr ⟨by simpa using hur, ?_⟩
                  have := HU.out.resolve_left hur
                  have := HMM.out
                  simp
                  omega
              clear hmp hmn
              rcases hcase with hu | ⟨hu, g3⟩
              all_goals
               as_aux_lemma =>
                rw [hu] at o2
                clear hu
                go_wp2_with fail
                go_quiet ((go_at_call 12; exact H12.out _ _ (HS2.out.at_.alloc _)))
                clear x1 x2 g1 g2 o2
                go_wp2_with fail
                go_loopg [14] L.length (fun g jv wx => ∃ j q : Nat, j + g = L.length ∧ jv = .int .i64 j ∧ wx = (w2.alloc (.cells #[.int .i64 i, .int .i64 t] 32)).drewN q)
                case atStart => exact ⟨0, _, by omega, rfl, rfl⟩
                case round =>
                  obtain ⟨j, q, hjg, rfl, rfl⟩ := hrel
                  by_cases hj : j < L.length
                  · obtain ⟨g2, hB, _, hgl, hgd, hgc⟩ := HS2.out.own.at_ (by omega)
                    obtain ⟨q0, q1⟩ := hgc j hj
                    have hne := HLN.out _ (List.getElem_mem hj)
                    subst hB
                    generalize (L[j]'hj).1 = z at q0 hne
                    have e1 : (z == i) = false := by simpa using hne
                    have e2 : ((z : Int) == (i : Int)) = false := by simp; omega
                    clear hgc hne
                    go_wp2_with fail
                    go_quiet (fail)
                    go_wp2_with fail
                    go_roundg (L.length - (j + 1))
                    case measure => omega
                    case rel => exact ⟨j + 1, _, by omega, by go_num, rfl⟩
                  · go_wp2_with fail
                    go_loopg [15] D.length (fun g jv wx => ∃ j q : Nat, j + g = D.length ∧ jv = .int .i64 j ∧ wx = (w2.alloc (.cells #[.int .i64 i, .int .i64 t] 32)).drewN q)
                    case atStart => exact ⟨0, _, by omega, rfl, rfl⟩
                    case round =>
                      clear hj hjg
                      obtain ⟨j, q, hjg, rfl, rfl⟩ := hrel
                      by_cases hj : j < D.length
                      · obtain ⟨g2, hB, _, hgl, hgd, hgc⟩ := HS2.out.own2.at_ (by omega)
                        obtain ⟨q0, q1⟩ := hgc j hj
                        have hne := HDN.out _ (List.getElem_mem hj)
                        subst hB
                        obtain ⟨z, hz⟩ : ∃ z, z = (D[j]'hj).1 := ⟨_, rfl⟩
                        obtain ⟨tz, htz⟩ : ∃ tz, tz = (D[j]'hj).2 := ⟨_, rfl⟩
                        rw [← hz] at q0
                        rw [← htz] at q1
                        have hne' : z = i → tz ≠ t := fun h1 h2 => hne (by rw [← h1, ← h2, hz, htz])
                        clear hne hz htz hgc
                        by_cases hzi : z = i
                        · have e3 : (tz == t) = false := by simpa using hne' hzi
                          rw [hzi] at q0
                          clear hne' hzi
                          go_wp2_with fail
                          go_quiet (fail)
                          go_wp2_with fail
                          go_roundg (D.length - (j + 1))
                          case measure => omega
                          case rel => exact ⟨j + 1, _, by omega, by go_num, rfl⟩
                        · have e1 : (z == i) = false := by simpa using hzi
                          have e2 : ((z : Int) == (i : Int)) = false := by simp; omega
                          clear hne' hzi
                          go_wp2_with fail
                          go_quiet (fail)
                          go_wp2_with fail
                          go_roundg (D.length - (j + 1))
                          case measure => omega
                          case rel => exact ⟨j + 1, _, by omega, by go_num, rfl⟩
                      · have hws : w.heap.size ≤ w2.heap.size := HS2.out.bl.size
                        go_wp2_with (at_builtin; refine wpList_append_own_at _ rfl _ _ 30 rfl w.heap.size 32 i0 (.agg #[.int .i64 0, .int .i64 0]) 2 16 Try.underlying30 hi hz0 hz1 hz2 rfl (by decide) _ _ _ rfl (World.ownsRow.alloc (owns_drewN (World.ownsRow.alloc HS2.out.own _) _) _) ⟨w2.heap.size + 1, 0, none⟩ 1 1 [.int .i64 i, .int .i64 t] rfl rfl ?c1 ?c2 ?c3 ?c4 ?c5 ?_)
                        case c1 => exact new_cells _ #[.int .i64 i, .int .i64 t] 32 _ (by simp)
                        case c2 => intro u hu; simp at hu; rcases hu with rfl | rfl <;> rfl
                        case c3 => unfold maxLen; omega
                        case c4 => omega
                        case c5 => simp; omega
                        intro v' w3 hown hgrow _ hloc
                        obtain ⟨A', d', rfl, hT⟩ := (HS2.out.quiet ((((Only.refl _ _).alloc (.cells #[.int .i64 i, .int .i64 t] 32)).drewN q).alloc (.cells #[.int .i64 i, .int .i64 t] 32))).push hown hgrow (by simpa using hloc)
                        have HT : Hid (CM w w3 sb lb fb cap w.heap.size n r S2 (L ++ [(i, t)]) A' d' D B2 d2) := hT
                        clear hT hown hgrow hloc
                        go_wp2_with fail
                        go_meet
                        exact ⟨S2, _, A', d', D, B2, d2, by rw [List.length_append]; rfl, rfl, HI2.out, HT.out⟩
        · as_aux_lemma =>
          have h0b : ((ops k).ask == 0) = false := by simpa using h0
          by_cases ha1 : (ops k).ask = 1
          · have h1b : ((ops k).ask == 1) = true := by simpa using ha1
            by_cases hL0 : L.length = 0
            · have hLle : L.length ≤ 0 := by omega
              clear hL0 h0 ha1
              go_wp2_with fail
              go_meet
              exact ⟨S, L, B, d, D, B2, d2, rfl, rfl, HI'.out.skip, HC'.out.quiet ((Only.refl _ _).alloc _)⟩
            · have hLp : 0 < L.length := by omega
              have hj := pick_lt (x := (ops k).pl) hLp
              have hje := pick_eq (x := (ops k).pl) hLp
              obtain ⟨g, hB, hgB, hgl, hgd, hgc⟩ := HC'.out.own.at_ hLp
              generalize hpj : pick (ops k).pl L.length = j at hj hje
              obtain ⟨q0, q1⟩ := hgc j hj
              have hok := HI'.out.lv.ok _ (List.getElem_mem hj)
              have hcl := HI'.out.inv.cl4 (L[j]'hj).1
              have hI2 := HI'.out.free hj
              obtain ⟨z, tz, hlj⟩ : ∃ z tz, L[j]'hj = (z, tz) := ⟨_, _, rfl⟩
              rw [hlj] at q0 q1 hok hcl hI2
              dsimp only at q0 q1 hok hcl hI2
              have hw1 : -(L.length : Int) < (ops k).pl.tmod L.length := Int.lt_tmod_of_pos _ (by omega)
              have hw2 : (ops k).pl.tmod L.length < L.length := Int.tmod_lt_of_pos _ (by omega)
              subst hB
              have hLb : decide ((L.length : Int) > 0) = true := by simp; omega
              obtain ⟨q, hq⟩ : ∃ q : Nat, S.cl z = (q : Int) := ⟨(S.cl z).toNat, by omega⟩
              obtain ⟨hk1, hk2, hk3, hk4⟩ := hok
              have hrm := HI'.out.lv.room hLp
              have HLJ : Hid (L[j]'hj = (z, tz)) := hlj
              have HE : Hid (z < S.n ∧ S.cl z = (q : Int) ∧ 1 ≤ q ∧ q ≤ 4 ∧ S.m < S.n ∧ S.tn z = tz) := ⟨hk1, hq, by omega, by omega, hrm, hk3⟩
              have HI2 : Hid (CI n (k + 1) r (S.freed z) (L.eraseIdx j) (D ++ [(z, tz)])) := hI2
              clear hk1 hk2 hk3 hk4 hq hrm hcl hgc hI2 hlj h0 ha1 hL0
              go_wp2_with fail
              rw [← HE.out.2.2.2.2.2]
              refine (free_ok (i := z) (k := q) (HC'.out.at_.alloc _) HI'.out.inv.n2 HI'.out.bd (by omega) HE.out.1 HE.out.2.1 HE.out.2.2.1 HE.out.2.2.2.1 HE.out.2.2.2.2.1).mono ?_
              rintro e w2 ⟨rfl, hA2, ho⟩
              have HS2 : Hid (CM w w2 sb lb fb cap w.heap.size n r (S.freed z) L (some ⟨g, 0, none⟩) d D B2 d2) := (HC'.out.quiet ((Only.refl _ _).alloc _)).step hA2 ho
              have H12 : Hid (Calls Try.prog 12 #[.pointer (some ⟨sb, 0, none⟩)] w2 fun e w' => e = .returned (.int .i64 ((S.m : Int) + 1)) ∧ w2 = w') := left_any hA2
              clear hA2 ho p0 p1 p2 p3 p4 p5 p6 q0 q1
              go_wp2_with fail
              refine H12.out.mono ?_
              rintro e w' ⟨rfl, rfl⟩
              obtain ⟨g', hg', _, hgl2, _, hgc⟩ := HS2.out.own.at_ hLp
              obtain rfl : g = g' := by injection hg' with hg'; injection hg'
              obtain ⟨q0, q1⟩ := hgc j hj
              rw [HLJ.out] at q0 q1
              have hws : w.heap.size ≤ w2.heap.size := HS2.out.bl.size
              clear hgc hg'
              go_wp2_with (at_builtin; refine wpList_append_own_at _ rfl (.tmp 184) (.tmp 189) 30 rfl w.heap.size 32 i0 (.agg #[.int .i64 0, .int .i64 0]) 2 16 Try.underlying30 hi hz0 hz1 hz2 rfl (by decide) _ _ _ rfl (World.ownsRow.alloc HS2.out.own2 _) ⟨w2.heap.size, 0, none⟩ 1 1 [.int .i64 z, .int .i64 tz] rfl rfl ?c1 ?c2 ?c3 ?c4 ?c5 ?_)
              case c1 => exact new_cells _ #[.int .i64 z, .int .i64 tz] 32 _ (by simp)
              case c2 => intro u hu; simp at hu; rcases hu with rfl | rfl <;> rfl
              case c3 => unfold maxLen; omega
              case c4 => omega
              case c5 => simp; omega
              intro v' w3 hown hgrow _ hloc
              obtain ⟨A', d', rfl, hT⟩ := (HS2.out.quiet ((Only.refl _ _).alloc (.cells #[.int .i64 z, .int .i64 tz] 32))).push2 hown hgrow (by simpa using hloc)
              have HT : Hid (CM w w3 sb lb fb cap w.heap.size n r (S.freed z) L (some ⟨g, 0, none⟩) d (D ++ [(z, tz)]) A' d') := hT
              have hws3 : w.heap.size ≤ w3.heap.size := HT.out.bl.size
              have hjd : j ≤ d := by omega
              have hjd1 : j + 1 ≤ L.length := by omega
              have HLE : Hid ((hs L).length = L.length * 2) := hs_length L
              have HCUT : Hid ((if d = j + 1 then some (⟨g, 0, none⟩ : Addr) else some ⟨g, (j + 1) * 2, none⟩) = some (cutAt g ((j + 1) * 2) d (j + 1))) := cut_is _ _ _ _
              clear hT hown hgrow hloc q0 q1
              go_wp2_with (first | (at_builtin; refine wpList_append_own_at _ rfl (.tmp 191) (.tmp 194) 30 rfl w.heap.size 32 i0 (.agg #[.int .i64 0, .int .i64 0]) 2 16 Try.underlying30 hi hz0 hz1 hz2 rfl (by decide) (.slice none 0 0) 0 [] rfl (World.ownsRow_nil _ _ _ _) ⟨g, 0, none⟩ j d ((hs L).take (j * 2)) rfl (by have := HLE.out; simp; omega) (own_head HT.out.own _) (fun u hu => hs_one L u (List.mem_of_mem_take hu)) (by unfold maxLen; omega) (by omega) (by omega) ?_; intro v1 w4 hown1 hgrow1 _ hloc1; simp only [Nat.zero_add, List.nil_append] at hown1; have HG1 := hide hgrow1; have HW1 := hide hown1; have HL1 := hide hloc1; have HS3 := hgrow1.size; clear hgrow1 hown1 hloc1) | (at_builtin; refine wpList_append_own_at _ rfl (.tmp 196) (.tmp 200) 30 rfl w.heap.size 32 i0 (.agg #[.int .i64 0, .int .i64 0]) 2 16 Try.underlying30 hi hz0 hz1 hz2 rfl (by decide) _ j _ rfl (unhide HW1) (cutAt g ((j + 1) * 2) d (j + 1)) (L.length - (j + 1)) (d - (j + 1)) ((hs L).drop ((j + 1) * 2)) (congrArg (fun A => Value.slice A (L.length - (j + 1)) (d - (j + 1))) HCUT.out) (by have := HLE.out; simp; omega) (own_tail (World.ownsRow.kept HT.out.own (unhide HG1) (.inr (by intro e; cases e))) hgd _) (fun u hu => hs_one L u (List.mem_of_mem_drop hu)) (by unfold maxLen; omega) (by omega) (by omega) ?_; intro v2 w5 hown2 hgrow2 _ hloc2; have HL2 := hide hloc2; clear hloc2))
              all_goals
               obtain ⟨A3, d3', hv, hE⟩ := HT.out.erase hj (unhide HG1) (unhide HW1) (unhide HL1) hgrow2 hown2 (unhide HL2)
               go_meet
               exact ⟨_, _, A3, d3', _, A', d', hv, by rw [List.length_append]; rfl, HI2.out, hE⟩
          · have h1b : ((ops k).ask == 1) = false := by simpa using ha1
            clear h0 ha1
            go_wp2_with fail
            go_meet
            exact ⟨S, L, B, d, D, B2, d2, rfl, rfl, HI'.out.skip, HC'.out.quiet ((Only.refl _ _).alloc _)⟩
      case rest =>
       as_aux_lemma =>
        clear p0 p1 p2 p3 p4 p5 p6 HC' HI' hLn hDk hmn
        obtain ⟨S, L, B, d, D, B2, d2, rfl, rfl, hI, hC⟩ := hcut
        have HC : Hid (CM w wc sb lb fb cap w.heap.size n r S L B d D B2 d2) := hC
        have HI : Hid (CI n (k + 1) r S L D) := hI
        have hLn : L.length ≤ 40 := by have := hI.lv.cnt; have := hI.n; omega
        have hcnt : (L.length : Int) + S.m = n := by have := hI.lv.cnt; have := hI.n; omega
        have x0 := hF0 hC.xr
        have hxl := hC.xr.lt
        have A11 : Hid (∀ W, At W sb lb fb cap S → Calls Try.prog 11 #[.pointer (some ⟨sb, 0, none⟩), .slice none 0 0] W fun e w' => e = .returned (.int .i64 L.length) ∧ W = w') := fun W h => by
          have h' := live_all h hI.inv hI.bd (by omega)
          have e : (S.n : Int) - S.m = L.length := by have := hI.lv.cnt; omega
          rw [e] at h'
          exact h'
        have A11b : Hid (∀ W g, At W sb lb fb cap S → W.cell? ⟨g, 0, none⟩ = some (.int .i64 1) → W.cell? ⟨g, 1, none⟩ = some (.int .i64 2) → W.cell? ⟨g, 2, none⟩ = some (.int .i64 3) → W.cell? ⟨g, 3, none⟩ = some (.int .i64 4) → Calls Try.prog 11 #[.pointer (some ⟨sb, 0, none⟩), .slice (some ⟨g, 0, none⟩) 4 4] W fun e w' => e = .returned (.int .i64 L.length) ∧ W = w') := fun W g h q0 q1 q2 q3 => by
          have h' := live_four h hI.inv hI.bd (by omega) q0 q1 q2 q3
          have e : (S.n : Int) - S.m = L.length := by have := hI.lv.cnt; omega
          rw [e] at h'
          exact h'
        have hwr : IntKind.i64.wrap ((L.length : Int) + (S.m : Int)) = (n : Int) := by rw [IntKind.wrap_i64]; omega
        clear hI hC hcnt
        go_wp2_with fail
        go_region_held3 (fun w' => w'.cell? ⟨w.heap.size, 0, none⟩ = some (.int .i64 n)) (go_keep) (first | (go_at_call 12; (with_reducible refine Calls.mono (left_any (sb := sb) (lb := lb) (fb := fb) (cap := cap) (S := S) ?_) ?_); (first | exact HC.out.at_ | exact HC.out.at_.drew | exact (HC.out.at_.alloc _).drew); rintro e w' ⟨rfl, rfl⟩) | (go_at_call_of 11 (Value.slice none 0 0); (with_reducible refine Calls.mono (A11.out _ ?_) ?_); (first | exact HC.out.at_ | exact HC.out.at_.drew | exact (HC.out.at_.alloc _).drew); rintro e w' ⟨rfl, rfl⟩) | (go_at_call 11; (with_reducible refine Calls.mono (A11b.out _ _ ?_ ?_ ?_ ?_ ?_) ?_); (first | exact HC.out.at_ | exact HC.out.at_.drew | exact (HC.out.at_.alloc _).drew); (simp [go_sem]); (simp [go_sem]); (simp [go_sem]); (simp [go_sem]); rintro e w' ⟨rfl, rfl⟩))
        have HC4 : Hid (CM w ((wc.alloc (.cells #[.int .i64 1, .int .i64 2, .int .i64 3, .int .i64 4] 3)).drew) sb lb fb cap w.heap.size n r S L B d D B2 d2) := HC.out.quiet (((Only.refl _ _).alloc _).drew)
        have hD : D.length ≤ 60 := by have := HI.out.dl; omega
        clear x0 hxl hwr
        go_wp2_with fail
        go_loopg [20] D.length (fun g i wx => ∃ j : Nat, j + g = D.length ∧ i = .int .i64 j ∧ CM w wx sb lb fb cap w.heap.size n r S L B d D B2 d2)
        case atStart => exact ⟨0, by omega, rfl, HC4.out⟩
        case round =>
          obtain ⟨j, hjg, rfl, hx⟩ := hrel
          have HX : Hid (CM w wr sb lb fb cap w.heap.size n r S L B d D B2 d2) := hx
          by_cases hj : j < D.length
          · obtain ⟨g2, hB, _, _, hgd, hgc⟩ := hx.own2.at_ (by omega)
            obtain ⟨q0, q1⟩ := hgc j hj
            have hst : Stale S (D[j]'hj).1 (D[j]'hj).2 := HI.out.dd.stale (List.getElem_mem hj)
            subst hB
            have hn4 := HI.out.inv.n2
            generalize (D[j]'hj).1 = z at q0 hst
            generalize (D[j]'hj).2 = tz at q1 hst
            have HST : Hid (Stale S z tz) := hst
            clear hst hgc hx
            go_wp2_with fail
            refine (get_stale HX.out.at_ hn4 HST.out).mono ?_
            rintro e w5 ⟨rfl, ho5⟩
            have HX5 : Hid (CM w w5 sb lb fb cap w.heap.size n r S L B d D (some ⟨g2, 0, none⟩) d2) := HX.out.quiet ho5
            have q0' := (ho5.cell (p := ⟨g2, j * 2, none⟩) (World.block_lt_of_cell? _ _ q0) (by simp)).trans q0
            have q1' := (ho5.cell (p := ⟨g2, j * 2 + 1, none⟩) (World.block_lt_of_cell? _ _ q1) (by simp)).trans q1
            clear ho5 q0 q1
            go_wp2_with fail
            refine (free_stale HX5.out.at_ hn4 HST.out).mono ?_
            rintro e w6 ⟨rfl, ho6⟩
            have HX6 : Hid (CM w w6 sb lb fb cap w.heap.size n r S L B d D (some ⟨g2, 0, none⟩) d2) := HX5.out.quiet ho6
            have q0 := (ho6.cell (p := ⟨g2, j * 2, none⟩) (World.block_lt_of_cell? _ _ q0') (by simp)).trans q0'
            have q1 := (ho6.cell (p := ⟨g2, j * 2 + 1, none⟩) (World.block_lt_of_cell? _ _ q1') (by simp)).trans q1'
            clear ho6 q0' q1'
            go_wp2_with fail
            refine (set_stale HX6.out.at_ hn4 HST.out).mono ?_
            rintro e w7 ⟨rfl, ho7⟩
            have HX7 : Hid (CM w w7 sb lb fb cap w.heap.size n r S L B d D (some ⟨g2, 0, none⟩) d2) := HX6.out.quiet ho7
            clear ho7 q0 q1
            go_wp2_with fail
            go_roundg (D.length - (j + 1))
            case measure => omega
            case rel => exact ⟨j + 1, by omega, by go_num, HX7.out⟩
          · clear hx
            go_wp2_with fail
            go_roundg (m - (k + 1))
            case measure => omega
            case rel => exact ⟨k + 1, S, L, B, d, D, B2, d2, by omega, by go_num, rfl, rfl, HI.out, HX.out⟩
    · as_aux_lemma =>
      obtain rfl : k = m := by omega
      clear hI hC
      go_wp2_with fail
      go_loopg [25] L.length (fun g i wx => ∃ j : Nat, j + g = L.length ∧ i = .int .i64 j ∧ CM w wx sb lb fb cap w.heap.size n r S L B d D B2 d2)
      case atStart => exact ⟨0, by omega, rfl, HC'.out⟩
      case round =>
        obtain ⟨j, hjg, rfl, hx⟩ := hrel
        have HX : Hid (CM w wr sb lb fb cap w.heap.size n r S L B d D B2 d2) := hx
        by_cases hj : j < L.length
        · obtain ⟨g2, hB, _, _, hgd, hgc⟩ := hx.own.at_ (by omega)
          obtain ⟨q0, q1⟩ := hgc j hj
          have hok := HI'.out.lv.ok _ (List.getElem_mem hj)
          subst hB
          have hn4 := HI'.out.inv.n2
          rw [← hok.2.2.1] at q1
          generalize (L[j]'hj).1 = z at q0 q1 hok
          have HOK : Hid (z < S.n ∧ S.cl z ≠ 0) := ⟨hok.1, hok.2.1⟩
          generalize htz : S.tn z = tz at q1
          have HT : Hid (S.tn z = tz) := htz
          clear hok hgc hx htz
          go_wp2_with fail
          rw [← HT.out]
          refine (get_ok HX.out.at_ hn4 HOK.out.1 HOK.out.2).mono ?_
          rintro e w5 ⟨rfl, ho5⟩
          have HX5 : Hid (CM w w5 sb lb fb cap w.heap.size n r S L (some ⟨g2, 0, none⟩) d D B2 d2) := HX.out.quiet ho5
          clear ho5 q0 q1
          go_wp2_with fail
          go_roundg (L.length - (j + 1))
          case measure => omega
          case rel => exact ⟨j + 1, by omega, by go_num, HX5.out⟩
        · clear hx
          go_wp2_with fail
          refine (awake_any _).mono ?_
          rintro e w3 ⟨rfl, hb3⟩
          have HB3 : Hid (Below wr.heap.size wr w3) := hb3
          clear hb3
          go_wp2_with fail
          go_ret
          exact ⟨rfl, HX.out.bl.trans (HB3.out.mono HX.out.bl.size)⟩
end Go.Proofs.Ytegnbodolkaelaa
