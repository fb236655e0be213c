/-
  GvtWorks: a worker and the reference's, call by call.
-/
import Derived.Test.YtdommbaljchofaaS2
import Derived.Test.YtdommbaljchofaaA
namespace Go.Proofs.Ytdommbaljchofaa
open Go.RowKit Go.Deep
set_option linter.unusedVariables false

theorem map_owns_ne {H : Type} {P : Program} {k : TypeId} {R : Value → Option (DataW H × List MemPlace)} {w : World} {mb n : Nat} {D : DataW H} (h : w.ownsMap P k R mb n D) {base : Nat} {e : TypeId} {size : Nat} {v : Value} {m : Nat} {xs : List Value} (r : w.ownsRow base e size v m xs) : ∀ g, v.ownBlock = some g → mb ≠ g := by
  intro g hg
  rcases r.2 with ⟨rfl, _⟩ | ⟨g', cap, cur, rfl, _, hgg, _⟩
  · simp [Value.ownBlock] at hg
  · simp [Value.ownBlock] at hg
    subst hg
    rintro rfl
    obtain ⟨es, clock, h1, _⟩ := h
    rw [h1] at hgg
    cases hgg
section
variable {W w w' : World} {B wb mb n rb : Nat} {A1 A2 : Option Addr} {c1 c2 : Nat} {rd lo rd' lo' : Int} {M M' : List (Int × Int)}
theorem apart (h : WAt w wb mb n rd lo M) (r : RAt w B rb A1 A2 c1 c2 rd' lo' M') : wb ∉ fp rb A1 A2 M'.length c1 c2 ∧ mb ∉ fp rb A1 A2 M'.length c1 c2 := by
  obtain ⟨D, hD, _⟩ := h.mp
  have e1 := row_ne h.hd r.hd (by decide)
  have e2 := map_row_ne hD r.hd
  have l1 := fun g hg => owns_row_ne r.no h.hd (by decide) g hg
  have l2 := fun g hg => owns_row_ne r.at_ h.hd (by decide) g hg
  have l3 := fun g hg => map_owns_ne hD r.no g hg
  have l4 := fun g hg => map_owns_ne hD r.at_ g hg
  simp only [List.length_map] at l1 l2 l3 l4
  constructor
  · intro hm
    simp only [fp, ob, List.mem_cons, List.mem_append, Option.mem_toList] at hm
    rcases hm with e | e | e
    · exact e1 e
    · exact l1 _ e rfl
    · exact l2 _ e rfl
  · intro hm
    simp only [fp, ob, List.mem_cons, List.mem_append, Option.mem_toList] at hm
    rcases hm with e | e | e
    · exact e2 e
    · exact l3 _ e rfl
    · exact l4 _ e rfl
theorem RAt.fp_ge (r : RAt w B rb A1 A2 c1 c2 rd lo M) (h : B ≤ rb) : ∀ x ∈ fp rb A1 A2 M.length c1 c2, B ≤ x := by
  have l1 := owned_ge r.no
  have l2 := owned_ge r.at_
  simp only [List.length_map] at l1 l2
  intro x hm
  simp only [fp, ob, List.mem_cons, List.mem_append, Option.mem_toList] at hm
  rcases hm with e | e | e
  · omega
  · exact l1 _ e
  · exact l2 _ e
/-- At a round's head. -/
structure WM (W w : World) (wb mb n rb : Nat) (A1 A2 : Option Addr) (c1 c2 : Nat) (s t : WS) : Prop where
  a : WAt w wb mb n s.rd s.lo s.M
  r : RAt w W.heap.size rb A1 A2 c1 c2 t.rd t.lo t.M
  bl : Below W.heap.size W w
  b1 : W.heap.size ≤ wb
  b2 : W.heap.size ≤ mb
  b3 : W.heap.size ≤ rb
end
namespace WM
variable {W w w' : World} {wb mb n n' rb : Nat} {A1 A2 A1' A2' : Option Addr} {c1 c2 c1' c2' : Nat} {s t s' t' : WS}
theorem quiet (h : WM W w wb mb n rb A1 A2 c1 c2 s t) (k : Only [] w w') : WM W w' wb mb n rb A1 A2 c1 c2 s t :=
  ⟨h.a.only0 k, h.r.only0 k, Only.to_below h.bl k (by simp) h.bl.size, h.b1, h.b2, h.b3⟩
theorem step (h : WM W w wb mb n rb A1 A2 c1 c2 s t) (ha : WAt w' wb mb n' s'.rd s'.lo s'.M) (hr : RAt w' W.heap.size rb A1' A2' c1' c2' t'.rd t'.lo t'.M) (k : Only (wb :: mb :: fp rb A1 A2 t.M.length c1 c2) w w') : WM W w' wb mb n' rb A1' A2' c1' c2' s' t' :=
  ⟨ha, hr, Only.to_below h.bl k (by
    intro i hi
    simp only [List.mem_cons] at hi
    rcases hi with rfl | rfl | hi
    · exact h.b1
    · exact h.b2
    · exact h.r.fp_ge h.b3 i hi) h.bl.size, h.b1, h.b2, h.b3⟩
theorem start {w1 : World} (hW : WAt w1 wb mb 0 0 Never []) (hb : Below W.heap.size W w1) (b1 : W.heap.size ≤ wb) (b2 : W.heap.size ≤ mb) :
    WM W (w1.alloc (.cells #[.slice none 0 0, .slice none 0 0, .int .i64 0, .int .i64 1073741825] 30)) wb mb 0 w1.heap.size none none 0 0 ⟨0, Never, []⟩ ⟨0, Never, []⟩ := by
  refine ⟨hW.only0 ((Only.refl _ _).alloc _), ⟨?_, OwnsI.nil _ _, OwnsI.nil _ _, by simp [Value.ownBlock]⟩, hb.alloc hb.size _, b1, b2, hb.size⟩
  exact World.rowIs_alloc w1 #[.slice none 0 0, .slice none 0 0, .int .i64 0, .int .i64 1073741825] 30 (rwF none none 0 0 0 0 Never) (by
    intro i hi
    simp at hi
    rcases (show i = 0 ∨ i = 1 ∨ i = 2 ∨ i = 3 by omega) with rfl | rfl | rfl | rfl <;> rfl)
end WM

theorem IntsAt.lt {w : World} {A : Option Addr} {L : List Int} (h : IntsAt w A L) (hne : L ≠ []) : ∀ a, A = some a → a.block < w.heap.size := by
  intro a ha
  obtain ⟨b, off, hA, hlt, _⟩ := h 0 (List.length_pos_iff.2 hne)
  rw [ha] at hA
  injection hA with hA
  subst hA
  exact hlt
theorem OpAt.below {w w' : World} {b off : Nat} {o : OpV} {B : Option Addr} {d : Nat} (h : OpAt w b off o B d) (hl : b < w.heap.size) (hb : Below w.heap.size w w') : OpAt w' b off o B d := by
  obtain ⟨h0, h1, h2, h3, h4, wa, il⟩ := h
  exact ⟨(hb.cell hl).trans h0, (hb.cell hl).trans h1, (hb.cell hl).trans h2, (hb.cell hl).trans h3, (hb.cell hl).trans h4, wa, il.only0 (Only.of_below hb [])⟩

theorem leastOf_foldl (L : List Int) : leastOf L = L.foldl min Never := rfl

set_option maxRecDepth 100000 in
set_option maxHeartbeats 4000000 in
theorem works_main {w : World} {m c : Nat} {A : Option Addr} {ops : Nat → OpV} (hfew : fewB m ops = true) (hO : OpsAt w A m ops) :
    Calls Try.prog 3 #[.slice A m c] w fun e w' => e = .returned (.bool true) ∧ Below w.heap.size w w' := by
  have hm : m ≤ 60 := (few_yes.1 hfew).2
  have HL : Hid (∀ i < m, (ops i).l.length ≤ 20) := (few_yes.1 hfew).1
  have HO : Hid (OpsAt w A m ops) := hO
  have HF := hide hfew
  clear hO hfew
  go_enter Try.func3, Try.ntmps3
  go_wp2_with fail
  refine (new_any _).mono ?_
  rintro e w1 ⟨wb, mb, rfl, hW, hb, b1, b2⟩
  have HW := hide hW
  have HB : Hid (Below w.heap.size w w1) := hb
  have HO1 : Hid (OpsAt w1 A m ops) := HO.out.below hb
  clear hW hb
  go_wp2_with (go_at_call 10; refine (few_any (by omega) HO1.out (unhide HF)).mono ?_; rintro e w' ⟨rfl, rfl⟩)
  go_loopg [5] m (fun g i wr => ∃ (k n : Nat) (A1 A2 : Option Addr) (c1 c2 : Nat) (s : WS), k + g = m ∧ i = .int .i64 k ∧ n ≤ k ∧ s.Good k ∧ WM w wr wb mb n w1.heap.size A1 A2 c1 c2 s s)
  case atStart => exact ⟨0, 0, none, none, 0, 0, ⟨0, Never, []⟩, by omega, rfl, by omega, ⟨by simp, by simp, by simp, by simp⟩, WM.start (unhide HW) HB.out b1 b2⟩
  case round =>
    obtain ⟨k, n, A1, A2, c1', c2', s, hkg, rfl, hn, hG, hR⟩ := hrel
    have HR := hide hR
    have HG := hide hG
    have HS : Hid (w1.heap.size = w1.heap.size) := rfl
    generalize w1.heap.size = rb at *
    by_cases hk : k < m
    · obtain ⟨b, off, B, d, rfl, hbw, ho0⟩ := HO.out k hk
      have ho := ho0.below hbw hR.bl
      have hbl : b < wr.heap.size := Nat.lt_of_lt_of_le hbw hR.bl.size
      have hBw : (ops k).l ≠ [] → ∀ a, B = some a → a.block ∉ [wb, mb] := by
        intro hne a ha
        have := ho0.il.lt hne a ha
        simp; omega
      have p0 := ho.c0
      have p1 := ho.c1
      have p2 := ho.c2
      have p3 := ho.c3
      have p4 := ho.c4
      have HWa := hide ho.wa
      have HIl := hide ho.il
      have HBW := hide hBw
      have HLl : Hid ((ops k).l.length ≤ 1000) := by have := HL.out k hk; show (ops k).l.length ≤ 1000; omega
      clear hR ho ho0 hBw hG
      have g1 : decide (m ≤ k) = false := by simp; omega
      have g2 : decide (k < m) = true := by simp; omega
      obtain ⟨o, ho⟩ : ∃ o, ops k = o := ⟨_, rfl⟩
      rw [ho] at p0 p1 p2 p3 p4 HWa HIl HBW HLl
      clear ho
      go_wp2_with fail
      refine Calls.mono (does_any (o := o) (s := s) (t := s) (d := d) (unhide HR).a (by omega) (unhide HR).r (unhide HR).bl.size ((unhide HG).more (by omega)) ((unhide HG).more (by omega)) (apart (unhide HR).a (unhide HR).r).1 (apart (unhide HR).a (unhide HR).r).2 (unhide HWa) (unhide HIl) (unhide HLl) (unhide HBW)) ?_
      rintro e w2 ⟨bb, rfl, hbb, n', hn', hW2, A1', A2', c1'', c2'', hR2, hO2⟩
      have hX := (unhide HR).step hW2 hR2 hO2
      have hbt : bb = true := hbb rfl
      subst hbt
      have hG2 := (unhide HG).step o
      clear hW2 hR2 hO2 hbb p0 p1 p2 p3 p4
      generalize s.step o = s2 at *
      have HX := hide hX
      have HG2 := hide hG2
      clear hX hG2
      go_wp2_with fail
      refine Calls.mono (open_any (unhide HX).a) ?_
      rintro e w3 ⟨rfl, hO3⟩
      have HX3 := hide ((unhide HX).quiet hO3)
      clear hO3
      go_wp2_with fail
      refine Calls.mono (got_any (unhide HX3).a) ?_
      rintro e w4 ⟨rfl, rfl⟩
      have r0 := (unhide HX3).r.k0
      have r2 := (unhide HX3).r.k2
      have rlt := (unhide HX3).r.lt
      obtain ⟨op, hop⟩ : ∃ op, leastOf (s2.M.map (·.2)) = op := ⟨_, rfl⟩
      have H15 : Hid (∀ q, Calls Try.prog 15 #[.pointer (some ⟨rb, 0, none⟩)] (w3.drewN q) fun e w' => e = .returned (.int .i64 op) ∧ ∃ z, w' = w3.drewN z) := fun q => by
        have hr := (unhide HX3).r.only0 ((Only.refl _ _).drewN q)
        have h' := ropen_any hr.kat hr.lt hr.at_.ints (by have := (unhide HG2).m; simp; omega)
        rw [← leastOf_foldl, hop] at h'
        exact h'.mono (by rintro e w' ⟨rfl, rfl⟩; exact ⟨rfl, q, rfl⟩)
      have H16 : Hid (∀ q, Calls Try.prog 16 #[.pointer (some ⟨wb, 0, none⟩)] (w3.drewN q) fun e w' => e = .returned (.int .i64 s2.rd) ∧ ∃ z, w' = w3.drewN z) := fun q => by
        have h' := round_any ((unhide HX3).a.only0 ((Only.refl _ _).drewN q))
        exact h'.mono (by rintro e w' ⟨rfl, rfl⟩; exact ⟨rfl, q, rfl⟩)
      rw [hop]
      clear hop
      have f1 : (op != op) = false := by simp
      have f2 : (s2.rd != s2.rd) = false := by simp
      have f3 : ((s2.M.length : Int) != (s2.M.length : Int)) = false := by simp
      go_wp2_with fail
      go_quiet ((first | (go_at_call 15; (first | exact H15.out _ | exact H15.out 0)) | (go_at_call 16; (first | exact H16.out _ | exact H16.out 0))))
      go_wp2_with fail
      go_roundg (m - (k + 1))
      case measure => omega
      case rel => exact ⟨k + 1, n', A1', A2', c1'', c2'', s2, by omega, by go_num, by omega, unhide HG2, (unhide HX3).quiet ((Only.refl _ _).drewN _)⟩
    · have g2 : decide (k < m) = false := by simp; omega
      clear hR hG
      go_wp2_with fail
      refine (awake_any _).mono ?_
      rintro e w3 ⟨rfl, hb3⟩
      have HB3 := hide hb3
      clear hb3
      go_wp2_with fail
      go_ret
      exact ⟨rfl, (unhide HR).bl.trans ((unhide HB3).mono (unhide HR).bl.size)⟩

set_option maxRecDepth 100000 in
set_option maxHeartbeats 4000000 in
theorem works_many {w : World} {m c : Nat} {A : Option Addr} {ops : Nat → OpV} (hm : m ≤ 9223372036854775807) (hfew : fewB m ops = false) (hO : OpsAt w A m ops) :
    Calls Try.prog 3 #[.slice A m c] w fun e w' => e = .returned (.bool true) ∧ Below w.heap.size w w' := by
  have HO : Hid (OpsAt w A m ops) := hO
  have HF := hide hfew
  clear hO hfew
  go_enter Try.func3, Try.ntmps3
  go_wp2_with fail
  refine (new_any _).mono ?_
  rintro e w1 ⟨wb, mb, rfl, hW, hb, b1, b2⟩
  have HB : Hid (Below w.heap.size w w1) := hb
  have HO1 : Hid (OpsAt w1 A m ops) := HO.out.below hb
  clear hW hb
  go_wp2_with (first | (go_at_call 10; refine (few_any hm HO1.out (unhide HF)).mono ?_; rintro e w' ⟨rfl, rfl⟩) | (go_at_call 11; refine (awake_any _).mono ?_; rintro e w3 ⟨rfl, hb3⟩; have HB3 := hide hb3; clear hb3))
  go_ret
  exact ⟨rfl, HB.out.trans ((unhide HB3).mono HB.out.size)⟩

theorem works_walk {w : World} {m c : Nat} {A : Option Addr} {ops : Nat → OpV} (hm : m ≤ 9223372036854775807) (hO : OpsAt w A m ops) :
    Calls Try.prog 3 #[.slice A m c] w fun e w' => e = .returned (.bool true) ∧ Below w.heap.size w w' := by
  cases hf : fewB m ops with
  | true => exact works_main hf hO
  | false => exact works_many hm hf hO
end Go.Proofs.Ytdommbaljchofaa
