/-
  The walk of boomeranglaw01.SlabKeeps.
-/
import Derived.Test.YtegnbodolkaelaaP3
import Derived.Test.YtegnbodolkaelaaL1
import Derived.Deep.RegionWith
namespace Go.Proofs.Ytegnbodolkaelaa
open Go.RowKit Go.Deep
set_option linter.unusedVariables false

/-- What holds at every round's head. -/
structure KR (W w : World) (n sb lb fb cap xb hb k : Nat) (x0 x1 : Int) (S : Sl) (L : List (Nat × Int)) (A : Option Addr) (d : Nat) : Prop where
  ki : KI n k x0 x1 S
  at_ : At w sb lb fb cap S
  own : OwnsH w W.heap.size A d L
  len : L.length ≤ k
  ok : ∀ p ∈ L, p.1 < n ∧ p.1 ≠ 0
  xr : w.rowIs xb 41 2 (hF x0 x1)
  hr : w.rowIs hb 32 2 (hF 0 1)
  bl : Below W.heap.size W w
  b1 : W.heap.size ≤ sb
  b2 : W.heap.size ≤ lb
  b3 : W.heap.size ≤ fb
  hn : hb ∉ [sb, lb, fb]
  lh : (Value.slice A L.length d).ownBlock ≠ some hb
section
variable {W w w2 w3 : World} {n sb lb fb cap xb hb k : Nat} {x0 x1 : Int} {S S' : Sl} {L : List (Nat × Int)} {A : Option Addr} {d : Nat}
theorem KR.quiet (h : KR W w n sb lb fb cap xb hb k x0 x1 S L A d) (ho : Only [] w w2) : KR W w2 n sb lb fb cap xb hb k x0 x1 S L A d :=
  ⟨h.ki, h.at_.only0 ho, h.own.only ho (by simp), h.len, h.ok, ho.row h.xr (by simp), ho.row h.hr (by simp), Only.to_below h.bl ho (by simp) h.bl.size, h.b1, h.b2, h.b3, h.hn, h.lh⟩
theorem KR.step (h : KR W w n sb lb fb cap xb hb k x0 x1 S L A d) (hA : At w2 sb lb fb cap S') (hK : KI n (k + 1) x0 x1 S') (ho : Only [sb, lb, fb] w w2) : KR W w2 n sb lb fb cap xb hb (k + 1) x0 x1 S' L A d := by
  have hin3 : ∀ b ∈ [sb, lb, fb], W.heap.size ≤ b := by
    simp
    exact ⟨h.b1, h.b2, h.b3⟩
  have h1 := row_ne h.xr h.at_.hd (by decide)
  have h2 := row_ne h.xr h.at_.sl (by decide)
  have h3 : xb ≠ fb := fun e => by
    obtain ⟨g, hg, _⟩ := h.at_.fr
    exact row_ne h.xr hg (by decide) e
  exact ⟨hK, hA, h.own.only ho (h.own.notin h.at_), by have := h.len; omega, h.ok, ho.row h.xr (by simp [h1, h2, h3]), ho.row h.hr h.hn, Only.to_below h.bl ho hin3 h.bl.size, h.b1, h.b2, h.b3, h.hn, h.lh⟩
theorem KR.push (h : KR W w n sb lb fb cap xb hb k x0 x1 S L A d) {i : Nat} {t : Int} {v' : Value} (hi : i < n) (hi0 : i ≠ 0) (hL : L.length < k)
    (hown : w2.ownsRow W.heap.size 32 2 v' (L.length + 1) (hs L ++ [.int .i64 i, .int .i64 t])) (hg : w.grownBy w2 (Value.ownBlock (.slice A L.length d)))
    (hloc : v'.ownBlock = Value.ownBlock (.slice A L.length d) ∨ v'.ownBlock = some w.heap.size) :
    ∃ A' d', v' = .slice A' (L.length + 1) d' ∧ KR W w2 n sb lb fb cap xb hb k x0 x1 S (L ++ [(i, t)]) A' d' := by
  obtain ⟨A', d', rfl⟩ := owns_form hown
  refine ⟨A', d', rfl, ?_⟩
  have hg' := only_grown hg
  have hin : ∀ b, b ∈ (Value.ownBlock (.slice A L.length d)).toList → Value.ownBlock (.slice A L.length d) = some b := fun b hb => by simpa [Option.mem_toList] using hb
  have hnot : ∀ b ∈ [sb, lb, fb], b ∉ (Value.ownBlock (.slice A L.length d)).toList := fun b hb hb2 => h.own.notin h.at_ b (hin b hb2) hb
  have hx := owns_row_ne h.own h.xr (by decide)
  refine ⟨h.ki, h.at_.only hg' (hnot _ (by simp)) (hnot _ (by simp)) (hnot _ (by simp)), ?_, by rw [List.length_append]; simp; omega, ?_, hg'.row h.xr (fun hb => hx xb (hin xb hb) rfl), hg'.row h.hr (fun hb' => h.lh (hin hb hb')), ?_, h.b1, h.b2, h.b3, h.hn, ?_⟩
  · unfold OwnsH
    rw [hs_append, List.length_append]
    exact hown
  · intro p hp
    rcases List.mem_append.1 hp with hp | hp
    · exact h.ok p hp
    · have e : p = (i, t) := by simpa using hp
      rw [e]
      exact ⟨hi, hi0⟩
  · exact h.bl.grown hg h.bl.size (fun b hb => (h.own.lt b hb).1)
  · rw [List.length_append]
    rcases hloc with hl | hl
    · intro e
      exact h.lh (by rw [← hl]; exact e)
    · intro e
      have : some w.heap.size = some hb := by rw [← hl]; exact e
      injection this with this
      have := h.hr.lt
      omega
end

set_option maxRecDepth 100000 in
set_option maxHeartbeats 8000000 in
theorem keeps_main {w : World} {n m c : Nat} {x0 x1 : Int} {A : Option Addr} {ops : Nat → OpV} (h1 : 2 ≤ n) (h2 : n ≤ 40) (c1 : 1 ≤ x0) (c4 : x0 ≤ 4) (hm : m ≤ 60) (hO : OpsAt w A m ops) :
    Calls Try.prog 5 #[.int .i64 n, .agg #[.int .i64 x0, .int .i64 x1], .slice A m c] w fun e w' => e = .returned (.bool true) ∧ Below w.heap.size w w' := by
  obtain ⟨i0, hi, hz0, hz1, hz2⟩ := info_parts Try.info32
  have d1 : decide ((n : Int) < 2) = false := by simp; omega
  have d2 : decide (40 < (n : Int)) = false := by simp; omega
  have d4 : decide (x0 < 1) = false := by simp; omega
  have d5 : decide (4 < x0) = false := by simp; omega
  have HO : Hid (OpsAt w A m ops) := hO
  clear hO
  go_enter Try.func5, Try.ntmps5
  go_wp2_with fail
  refine (few_any (by omega)).mono ?_
  rintro e w' ⟨rfl, rfl⟩
  have d3 : decide (m ≤ 60) = true := by simpa using hm
  go_wp2_with fail
  refine (new_ok (n := n) (r := 1) (by omega) (by omega) (by omega) (by omega)).mono ?_
  rintro e w0 ⟨sb, lb, fb, cap, rfl, hA, hb, b1, b2, b3⟩
  rw [World.size_alloc] at b1 b2 b3
  have hxr : (w.alloc (.cells #[.int .i64 x0, .int .i64 x1] 41)).rowIs w.heap.size 41 2 (hF x0 x1) := by
    have h := World.rowIs_alloc w #[.int .i64 x0, .int .i64 x1] 41 (hF x0 x1) (by
      intro i hi
      simp at hi
      rcases (show i = 0 ∨ i = 1 by omega) with rfl | rfl <;> rfl)
    simpa using h
  have hxr0 := (Only.of_below hb []).row hxr (by simp)
  have hbw : Below w.heap.size w w0 := ((Below.refl _ _).alloc (Nat.le_refl _) _).trans (hb.mono (by simp))
  have HA : Hid (At w0 sb lb fb cap (Sl.new n 1)) := hA
  have HB : Hid (Below w.heap.size w w0) := hbw
  have HX : Hid (w0.rowIs w.heap.size 41 2 (hF x0 x1)) := hxr0
  have a0 := hF0 hxr0
  have a1 := hF1 hxr0
  have a2 := hxr0.lt
  clear hA hb hxr hxr0 hbw
  go_wp2_with fail
  refine (take_first HA.out h1 h2 c1 c4).mono ?_
  rintro e w1 ⟨rfl, hA1, ho1⟩
  have hin3 : ∀ b ∈ [sb, lb, fb], w.heap.size ≤ b := by
    simp
    omega
  have HA1 : Hid (At w1 sb lb fb cap ((Sl.new n 1).taken x0 x1)) := hA1
  have HB1 : Hid (Below w.heap.size w w1) := Only.to_below HB.out ho1 hin3 HB.out.size
  have hx1 := row_ne HX.out HA.out.hd (by decide)
  have hx2 := row_ne HX.out HA.out.sl (by decide)
  have hx3 : w.heap.size ≠ fb := fun e => by
    obtain ⟨g, hg, _⟩ := HA.out.fr
    exact row_ne HX.out hg (by decide) e
  have HX1 : Hid (w1.rowIs w.heap.size 41 2 (hF x0 x1)) := ho1.row HX.out (by simp [hx1, hx2, hx3])
  have HN : Hid (w1.heap.size ∉ [sb, lb, fb]) := HA1.out.notin (Nat.le_refl _)
  clear hA1 ho1 hx1 hx2 hx3 a0 a1 a2 hin3
  go_wp2_with fail
  obtain ⟨xb, hxb⟩ : ∃ xb, xb = w.heap.size := ⟨_, rfl⟩
  go_loopw [11, 12] (fun live i wr => ∃ (k : Nat) (S : Sl) (L : List (Nat × Int)) (B : Option Addr) (d : Nat), k ≤ m ∧ i = .int .i64 k ∧ live = .slice B L.length d ∧ KR w wr n sb lb fb cap w.heap.size w1.heap.size k x0 x1 S L B d) (fun _ i _ => m - (intOf i).toNat)
  case atStart =>
    exact ⟨0, _, [], none, 0, Nat.zero_le _, rfl, rfl, KI.start h1 h2 c1 c4, HA1.out.alloc _, OwnsH.nil _ _, Nat.le_refl _, by simp, HX1.out.alloc _, hF_new w1 0 1, HB1.out.alloc HB1.out.size _, by omega, by omega, by omega, HN.out, by simp [Value.ownBlock]⟩
  case round =>
    obtain ⟨k, S, L, B, d, hk, rfl, rfl, hR⟩ := hrel
    have HR : Hid (KR w wr n sb lb fb cap w.heap.size w1.heap.size k x0 x1 S L B d) := hR
    have hLn : L.length ≤ k := hR.len
    by_cases hlt : k < m
    · obtain ⟨b, off, rfl, hbl, hw, p0, p1, p2, p3, p4, p5, p6⟩ := (HO.out.below ⟨hR.bl.os, hR.bl.tape, hR.bl.output, hR.bl.size, hR.bl.block⟩) k hlt
      clear hR
      by_cases h0 : (ops k).ask = 0
      · rw [h0] at p0
        go_wp2_with fail
        refine (take_keep (HR.out.at_.alloc _) HR.out.ki c1 (by omega)).mono ?_
        rintro e w2 (⟨f, hf, rfl, hA2, ho⟩ | ⟨i, t, S', hi', hi0, rfl, hA2, hK2, ho⟩)
        · have HS : Hid (KR w (w2.alloc (.cells #[.int .i64 0, .int .i64 0] 32)) n sb lb fb cap w.heap.size w1.heap.size (k + 1) x0 x1 S L B d) := ((HR.out.quiet ((Only.refl _ _).alloc _)).step hA2 HR.out.ki.skip ho).quiet ((Only.refl _ _).alloc _)
          have hfb : (f == 0) = false := by simpa using hf
          clear ho hA2 hf
          have a0 := hF0 HS.out.hr
          have a1 := hF1 HS.out.hr
          have a2 := HS.out.hr.lt
          go_wp2_with fail
          refine (get_keep (HS.out.at_) HS.out.ki c1).mono ?_
          rintro e w5 ⟨rfl, ho5⟩
          have HS5 : Hid (KR w w5 n sb lb fb cap w.heap.size w1.heap.size (k + 1) x0 x1 S L B d) := HS.out.quiet ho5
          clear ho5 a0 a1 a2
          have a0 := hF0 HS5.out.hr
          have a1 := hF1 HS5.out.hr
          have a2 := HS5.out.hr.lt
          go_wp2_with fail
          refine (class_keep HS5.out.at_ HS5.out.ki c1).mono ?_
          rintro e w6 ⟨rfl, ho6⟩
          have HS6 : Hid (KR w w6 n sb lb fb cap w.heap.size w1.heap.size (k + 1) x0 x1 S L B d) := HS5.out.quiet ho6
          clear ho6 a0 a1 a2
          have a0 := hF0 HS6.out.xr
          have a1 := hF1 HS6.out.xr
          go_wp2_with fail
          exact ⟨⟨k + 1, S, L, B, d, hlt, by go_num, rfl, HS6.out⟩, by simp [intOf]; omega⟩
        · have HS2 : Hid (KR w (w2.alloc (.cells #[.int .i64 i, .int .i64 t] 32)) n sb lb fb cap w.heap.size w1.heap.size (k + 1) x0 x1 S' L B d) := ((HR.out.quiet ((Only.refl _ _).alloc _)).step hA2 hK2 ho).quiet ((Only.refl _ _).alloc _)
          have hws : w.heap.size ≤ w2.heap.size := by have := HR.out.bl.size; have := ho.size; simp at this; omega
          have HI : Hid (i < n ∧ i ≠ 0) := ⟨hi', hi0⟩
          clear ho hA2 hK2 hi' hi0 p0 p1 p2 p3 p4 p5 p6
          go_wp2_with (at_builtin; refine wpList_append_own_at _ rfl _ _ 30 rfl w.heap.size 32 i0 (.agg #[.int .i64 0, .int .i64 0]) 2 16 Try.underlying30 hi hz0 hz1 hz2 rfl (by decide) _ _ _ rfl (World.ownsRow.alloc HS2.out.own _) ⟨w2.heap.size + 1, 0, none⟩ 1 1 [.int .i64 i, .int .i64 t] rfl rfl ?c1 ?c2 ?c3 ?c4 ?c5 ?_)
          case c1 => exact new_cells _ #[.int .i64 i, .int .i64 t] 32 _ (by simp)
          case c2 => intro u hu; simp at hu; rcases hu with rfl | rfl <;> rfl
          case c3 => unfold maxLen; omega
          case c4 => omega
          case c5 => simp; omega
          intro v' w3 hown hgrow _ hloc
          obtain ⟨A', d', rfl, hT⟩ := (HS2.out.quiet ((Only.refl _ _).alloc (.cells #[.int .i64 i, .int .i64 t] 32))).push HI.out.1 HI.out.2 (by omega) hown hgrow (by simpa using hloc)
          have HS : Hid (KR w w3 n sb lb fb cap w.heap.size w1.heap.size (k + 1) x0 x1 S' (L ++ [(i, t)]) A' d') := hT
          clear hT hown hgrow hloc
          have a0 := hF0 HS.out.hr
          have a1 := hF1 HS.out.hr
          have a2 := HS.out.hr.lt
          go_wp2_with fail
          refine (get_keep (HS.out.at_) HS.out.ki c1).mono ?_
          rintro e w5 ⟨rfl, ho5⟩
          have HS5 : Hid (KR w w5 n sb lb fb cap w.heap.size w1.heap.size (k + 1) x0 x1 S' (L ++ [(i, t)]) A' d') := HS.out.quiet ho5
          clear ho5 a0 a1 a2
          have a0 := hF0 HS5.out.hr
          have a1 := hF1 HS5.out.hr
          have a2 := HS5.out.hr.lt
          go_wp2_with fail
          refine (class_keep HS5.out.at_ HS5.out.ki c1).mono ?_
          rintro e w6 ⟨rfl, ho6⟩
          have HS6 : Hid (KR w w6 n sb lb fb cap w.heap.size w1.heap.size (k + 1) x0 x1 S' (L ++ [(i, t)]) A' d') := HS5.out.quiet ho6
          clear ho6 a0 a1 a2
          have a0 := hF0 HS6.out.xr
          have a1 := hF1 HS6.out.xr
          go_wp2_with fail
          exact ⟨⟨k + 1, S', (L ++ [(i, t)]), A', d', hlt, by go_num, by rw [List.length_append]; rfl, HS6.out⟩, by simp [intOf]; omega⟩
      · have h0b : ((ops k).ask == 0) = false := by simpa using h0
        by_cases hL0 : L.length = 0
        · have hLle : L.length ≤ 0 := by omega
          have HS : Hid (KR w (wr.alloc (.cells #[.int .i64 (ops k).ask, .int .i64 (ops k).cls, .bool (ops k).urg, .int .i64 (ops k).v, .int .i64 (ops k).pl, .int .i64 (ops k).hs, .int .i64 (ops k).ht] 34)) n sb lb fb cap w.heap.size w1.heap.size (k + 1) x0 x1 S L B d) := by
            have h := HR.out.quiet ((Only.refl [] wr).alloc (.cells #[.int .i64 (ops k).ask, .int .i64 (ops k).cls, .bool (ops k).urg, .int .i64 (ops k).v, .int .i64 (ops k).pl, .int .i64 (ops k).hs, .int .i64 (ops k).ht] 34))
            exact h.step h.at_ h.ki.skip (Only.refl _ _)
          clear hL0
          have s0 := hF0 HR.out.hr
          have s1 := hF1 HR.out.hr
          have s2 := HR.out.hr.lt
          have a0 := hF0 HS.out.hr
          have a1 := hF1 HS.out.hr
          have a2 := HS.out.hr.lt
          go_wp2_with fail
          refine (get_keep (HS.out.at_) HS.out.ki c1).mono ?_
          rintro e w5 ⟨rfl, ho5⟩
          have HS5 : Hid (KR w w5 n sb lb fb cap w.heap.size w1.heap.size (k + 1) x0 x1 S L B d) := HS.out.quiet ho5
          clear ho5 a0 a1 a2
          have a0 := hF0 HS5.out.hr
          have a1 := hF1 HS5.out.hr
          have a2 := HS5.out.hr.lt
          go_wp2_with fail
          refine (class_keep HS5.out.at_ HS5.out.ki c1).mono ?_
          rintro e w6 ⟨rfl, ho6⟩
          have HS6 : Hid (KR w w6 n sb lb fb cap w.heap.size w1.heap.size (k + 1) x0 x1 S L B d) := HS5.out.quiet ho6
          clear ho6 a0 a1 a2
          have a0 := hF0 HS6.out.xr
          have a1 := hF1 HS6.out.xr
          go_wp2_with fail
          exact ⟨⟨k + 1, S, L, B, d, hlt, by go_num, rfl, HS6.out⟩, by simp [intOf]; omega⟩
        · have hLp : 0 < L.length := by omega
          have hj := pick_lt (x := (ops k).pl) hLp
          have hje := pick_eq (x := (ops k).pl) hLp
          obtain ⟨g, hB, hgB, hgl, hgd, hgc⟩ := HR.out.own.at_ hLp
          generalize hpj : pick (ops k).pl L.length = j at hj hje
          obtain ⟨q0, q1⟩ := hgc j hj
          have hok := HR.out.ok _ (List.getElem_mem hj)
          have hw1 : -(L.length : Int) < (ops k).pl.tmod L.length := Int.lt_tmod_of_pos _ (by omega)
          have hw2 : (ops k).pl.tmod L.length < L.length := Int.tmod_lt_of_pos _ (by omega)
          subst hB
          generalize (L[j]'hj).1 = z at q0 hok
          generalize (L[j]'hj).2 = tz at q1
          have HOK : Hid (z < n ∧ z ≠ 0) := hok
          have hLb : decide ((L.length : Int) > 0) = true := by simp; omega
          clear hok hgc
          by_cases h1' : (ops k).ask = 1
          · rw [h1'] at p0
            clear h0b h0
            go_wp2_with fail
            refine (free_keep (HR.out.at_.alloc _) HR.out.ki HOK.out.1 HOK.out.2 (by omega)).mono ?_
            rintro e w2 ⟨a, b', S', rfl, hA2, hK2, ho⟩
            have HS : Hid (KR w w2 n sb lb fb cap w.heap.size w1.heap.size (k + 1) x0 x1 S' L (some ⟨g, 0, none⟩) d) := (HR.out.quiet ((Only.refl _ _).alloc _)).step hA2 hK2 ho
            clear ho hA2 hK2 q0 q1 p0 p1 p2 p3 p4 p5 p6
            have a0 := hF0 HS.out.hr
            have a1 := hF1 HS.out.hr
            have a2 := HS.out.hr.lt
            go_wp2_with fail
            refine (get_keep (HS.out.at_) HS.out.ki c1).mono ?_
            rintro e w5 ⟨rfl, ho5⟩
            have HS5 : Hid (KR w w5 n sb lb fb cap w.heap.size w1.heap.size (k + 1) x0 x1 S' L _ d) := HS.out.quiet ho5
            clear ho5 a0 a1 a2
            have a0 := hF0 HS5.out.hr
            have a1 := hF1 HS5.out.hr
            have a2 := HS5.out.hr.lt
            go_wp2_with fail
            refine (class_keep HS5.out.at_ HS5.out.ki c1).mono ?_
            rintro e w6 ⟨rfl, ho6⟩
            have HS6 : Hid (KR w w6 n sb lb fb cap w.heap.size w1.heap.size (k + 1) x0 x1 S' L _ d) := HS5.out.quiet ho6
            clear ho6 a0 a1 a2
            have a0 := hF0 HS6.out.xr
            have a1 := hF1 HS6.out.xr
            go_wp2_with fail
            exact ⟨⟨k + 1, S', L, _, d, hlt, by go_num, rfl, HS6.out⟩, by simp [intOf]; omega⟩
          · have h1b : ((ops k).ask == 1) = false := by simpa using h1'
            go_wp2_with fail
            go_region_with (go_at_call 14; refine (set_keep (v := (ops k).v) (HR.out.at_.alloc (.cells #[.int .i64 (ops k).ask, .int .i64 (ops k).cls, .bool (ops k).urg, .int .i64 (ops k).v, .int .i64 (ops k).pl, .int .i64 (ops k).hs, .int .i64 (ops k).ht] 34)).drew HR.out.ki HOK.out.1 HOK.out.2).mono ?_; rintro e w2 ⟨b', S', rfl, hA2, hK2, ho⟩)
            all_goals
              have HS : Hid (KR w w2 n sb lb fb cap w.heap.size w1.heap.size (k + 1) x0 x1 S' L (some ⟨g, 0, none⟩) d) := (HR.out.quiet (((Only.refl _ _).alloc _).drew)).step hA2 hK2 ho
              clear ho hA2 hK2 q0 q1 p0 p1 p2 p3 p4 p5 p6
              have a0 := hF0 HS.out.hr
              have a1 := hF1 HS.out.hr
              have a2 := HS.out.hr.lt
              go_wp2_with fail
              refine (get_keep (HS.out.at_) HS.out.ki c1).mono ?_
              rintro e w5 ⟨rfl, ho5⟩
              have HS5 : Hid (KR w w5 n sb lb fb cap w.heap.size w1.heap.size (k + 1) x0 x1 S' L _ d) := HS.out.quiet ho5
              clear ho5 a0 a1 a2
              have a0 := hF0 HS5.out.hr
              have a1 := hF1 HS5.out.hr
              have a2 := HS5.out.hr.lt
              go_wp2_with fail
              refine (class_keep HS5.out.at_ HS5.out.ki c1).mono ?_
              rintro e w6 ⟨rfl, ho6⟩
              have HS6 : Hid (KR w w6 n sb lb fb cap w.heap.size w1.heap.size (k + 1) x0 x1 S' L _ d) := HS5.out.quiet ho6
              clear ho6 a0 a1 a2
              have a0 := hF0 HS6.out.xr
              have a1 := hF1 HS6.out.xr
              go_wp2_with fail
              exact ⟨⟨k + 1, S', L, _, d, hlt, by go_num, rfl, HS6.out⟩, by simp [intOf]; omega⟩
    · obtain rfl : k = m := by omega
      clear hR
      have a0 := hF0 HR.out.hr
      have a1 := hF1 HR.out.hr
      go_wp2_with fail
      refine (free_last HR.out.at_ HR.out.ki c1 (by omega)).mono ?_
      rintro e w2 ⟨rfl, ho⟩
      have hin3 : ∀ b ∈ [sb, lb, fb], w.heap.size ≤ b := by
        simp
        omega
      have HB2 : Hid (Below w.heap.size w w2) := Only.to_below HR.out.bl ho hin3 HR.out.bl.size
      have hx1 := row_ne HR.out.xr HR.out.at_.hd (by decide)
      have hx2 := row_ne HR.out.xr HR.out.at_.sl (by decide)
      have hx3 : w.heap.size ≠ fb := fun e => by
        obtain ⟨g, hg, _⟩ := HR.out.at_.fr
        exact row_ne HR.out.xr hg (by decide) e
      have hxr := ho.row HR.out.xr (by simp [hx1, hx2, hx3])
      clear ho hin3 hx1 hx2 hx3 a0 a1
      have a0 := hF0 hxr
      have a1 := hF1 hxr
      clear hxr
      go_wp2_with fail
      refine (awake_any _).mono ?_
      rintro e w3 ⟨rfl, hb3⟩
      have HB3 : Hid (Below w2.heap.size w2 w3) := hb3
      clear hb3
      go_wp2_with fail
      go_ret
      exact ⟨rfl, HB2.out.trans (HB3.out.mono HB2.out.size)⟩
end Go.Proofs.Ytegnbodolkaelaa
