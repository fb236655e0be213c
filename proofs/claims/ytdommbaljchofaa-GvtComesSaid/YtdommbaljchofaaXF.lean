/-
  The statements' world: a worker works.
-/
import Derived.Test.YtdommbaljchofaaXG
import Derived.Test.YtdommbaljchofaaXT
import Derived.Deep.AppendLies
import Derived.Deep.RegionHeld3
import Derived.Deep.DeepCutAuto
import Derived.Deep.LoopGhost
namespace Go.Proofs.Ytdommbaljchofaa
open Go.RowKit Go.Deep
set_option linter.unusedVariables false
set_option linter.unusedSimpArgs false

/-- What a worker's sending turns. -/
structure SD where
  M : List (Int × Int)
  l : List Pk
  sent : Int
def SD.send (n i : Nat) (t : Int) (q : SD) (d : Int) : SD :=
  if d < 0 ∨ 1000 < d ∨ 1073741824 < t + d then q else ⟨q.M ++ [(q.sent, t + d)], q.l ++ [⟨0, i, ((i : Int) + d) % (n : Int), q.sent, t + d⟩], q.sent + 1⟩
structure SD.Ok (q : SD) (j : Nat) (N : Int) : Prop where
  fr : ∀ p ∈ q.M, p.1 < q.sent
  s0 : 0 ≤ q.sent
  s1 : q.sent ≤ N + j
  ll : (q.l.length : Int) ≤ N + j
theorem SD.Ok.send {n i : Nat} {t : Int} {q : SD} {d N : Int} {j : Nat} (h : q.Ok j N) : (q.send n i t d).Ok (j + 1) N := by
  obtain ⟨h1, h2, h3, h4⟩ := h
  unfold SD.send
  split
  · exact ⟨h1, h2, by omega, by omega⟩
  · refine ⟨fun p hp => ?_, by simp only; omega, by simp only; omega, by simp; omega⟩
    simp only [List.mem_append, List.mem_singleton] at hp
    rcases hp with hp | rfl
    · have := h1 p hp; simp only; omega
    · simp only; omega
theorem SD.Ok.code {q : SD} {j : Nat} {N t : Int} (h : q.Ok j N) (ht : IsTime t) : sentCode q.M q.sent t = 0 := by
  have h0 := h.s0
  simp only [sentCode]
  rw [if_neg (by omega), if_pos ht, if_neg]
  intro hm
  obtain ⟨p, hp, e⟩ := List.mem_map.1 (any_mem.1 hm)
  have := h.fr p hp
  omega

theorem keep04 {w : World} {xb : Nat} {u0 u4 : Value} (h : Hid (w.cell? ⟨xb, 0, none⟩ = some u0 ∧ w.cell? ⟨xb, 4, none⟩ = some u4)) (v : Value) : (w.setCell ⟨xb, 2, none⟩ v).cell? ⟨xb, 0, none⟩ = some u0 ∧ (w.setCell ⟨xb, 2, none⟩ v).cell? ⟨xb, 4, none⟩ = some u4 :=
  ⟨(World.cell?_setCell_other _ _ _ _ (by simp)).trans (unhide h).1, (World.cell?_setCell_other _ _ _ _ (by simp)).trans (unhide h).2⟩
theorem keepBad {w : World} {xb g i : Nat} {u0 u1 u4 : Value} (h : Hid (w.cell? ⟨xb, 0, none⟩ = some u0 ∧ w.cell? ⟨g, i, none⟩ = some u1 ∧ w.cell? ⟨xb, 4, none⟩ = some u4 ∧ w.cell? ⟨xb, 5, none⟩ = some (.bool false))) (hne : xb ≠ g) : (w.setCell ⟨xb, 5, none⟩ (.bool false)).cell? ⟨xb, 0, none⟩ = some u0 ∧ (w.setCell ⟨xb, 5, none⟩ (.bool false)).cell? ⟨g, i, none⟩ = some u1 ∧ (w.setCell ⟨xb, 5, none⟩ (.bool false)).cell? ⟨xb, 4, none⟩ = some u4 ∧ (w.setCell ⟨xb, 5, none⟩ (.bool false)).cell? ⟨xb, 5, none⟩ = some (.bool false) :=
  ⟨(World.cell?_setCell_other _ _ _ _ (by simp)).trans (unhide h).1, (World.cell?_setCell_other _ _ _ _ (by simp [hne])).trans (unhide h).2.1, (World.cell?_setCell_other _ _ _ _ (by simp)).trans (unhide h).2.2.1, World.cell?_setCell_same _ _ _ (unhide h).2.2.2⟩
theorem new_cells_drew (w : World) (cs : Array Value) (t b : Nat) (hb : w.heap.size = b) : ∀ j u, cs.toList[j]? = some u → (w.alloc (.cells cs t)).drew.cell? ((⟨b, 0, none⟩ : Addr).add j) = some u := new_cells w cs t b hb
theorem pushed_step {W w w3 : World} {xb : Nat} {x : XS} (h : XAt W w xb x) (p : Pk) {A' : Option Addr} {c' : Nat} {o : Obj}
    (hown : w3.ownsRow W.heap.size 79 5 (.slice A' (x.l.length + 1) c') (x.l.length + 1) (x.l.flatMap Pk.cells ++ p.cells)) (hgrow : (w.alloc o).drew.grownBy w3 (Value.slice x.lv x.l.length x.lc).ownBlock) :
    Only (ob x.lv x.l.length x.lc) w w3 ∧ xb ∉ ob x.lv x.l.length x.lc ∧ XAt W (w3.setCell ⟨xb, 2, none⟩ (.slice A' (x.l.length + 1) c')) xb { x with lv := A', lc := c', l := x.l ++ [p] } :=
  ⟨((((Only.refl [] w).alloc _).drew).mono (by simp)).trans (only_grown hgrow), fun hm => owns_row_ne h.lr h.hd (by decide) xb (by simpa [ob] using hm) rfl, h.pushed p (((Only.refl [] w).alloc _).drew) hown hgrow⟩

section
variable {W w : World} {xb : Nat} {x : XS}
/-- What a worker's work makes of it. -/
def workX (x : XS) (i : Nat) (k : WK) (nn' : Nat) (lv' : Option Addr) (lc' : Nat) (q : SD) : XS :=
  { x with K := x.K.set i ⟨k.wb, k.mb, nn', ⟨k.s.rd, k.s.lo, q.M⟩⟩, lv := lv', lc := lc', l := q.l, sent := q.sent }
set_option maxRecDepth 100000 in
set_option maxHeartbeats 16000000 in
theorem work_any {i c : Nat} {which : Int} {A3 : Option Addr} {later : List Int} {k : WK} {o : OK} (h : XAt W w xb x) (hk : x.K[i]? = some k) (ho : x.O[i]? = some o) (hI : IntsAt W A3 later)
    (hne : o.L ≠ []) (hoL : o.L.length ≤ 100000) (ht : ∀ t ∈ o.L, 0 ≤ t ∧ t ≤ 1073741824) (hK : x.K.length ≤ 8) (hlat : later.length ≤ 1000) (hq : (SD.mk k.s.M x.l x.sent).Ok 0 100000) (hnn : k.nn ≤ 100000) :
    Calls Try.prog 41 #[.pointer (some ⟨xb, 0, none⟩), .int .i64 i, .int .i64 which, .slice A3 later.length c] w fun e w' => e = .returned (.tuple #[]) ∧
      ∃ nn' lv' lc' A' c' j t, o.L[j]? = some t ∧ nn' ≤ k.nn + later.length ∧
      XAt W w' xb { workX x i k nn' lv' lc' (later.foldl (SD.send x.K.length i t) ⟨k.s.M, x.l, x.sent⟩) with O := x.O.set i ⟨A', c', o.L.eraseIdx j⟩ } := by
  obtain ⟨i0, hi, hz0, hz1, hz2⟩ := info_parts Try.info79
  have c1 := h.c1
  obtain ⟨g, hov, hgl, hgc, hgz⟩ := h.atO ho
  rw [hov] at c1
  have hil := (List.getElem?_eq_some_iff.1 ho).1
  have hik := (List.getElem?_eq_some_iff.1 hk).1
  have hol : 0 < o.L.length := List.length_pos_iff.2 hne
  have hlt := h.lt
  obtain ⟨j, hj, ej⟩ := modIdx hol (by omega) which
  have hoa := h.oa o (List.mem_of_getElem? ho)
  obtain ⟨g2, hg2, hg2l, _, hg2c, _⟩ := own_at (A := o.A) (c := o.c) (n := o.L.length) (by simpa [OwnsI] using hoa) hol
  obtain ⟨t, htj⟩ := some_of_lt hj
  have hcj := hg2c j (.int .i64 t) (by rw [List.getElem?_map, htj]; rfl)
  have ht2 := ht t (List.mem_of_getElem? htj)
  have ht0 := ht2.1
  have ht1 := ht2.2
  rw [hg2] at hgc
  have g1 : decide (x.O.length ≤ i) = false := by simp; omega
  have g2' : decide (i < x.O.length) = true := by simp; omega
  have g3 : (o.L.length == 0) = false := by simp; omega
  have g4 : ((o.L.length : Int) == 0) = false := by simp; omega
  have g5 : decide (o.L.length ≤ j) = false := by simp; omega
  have g6 : decide (j < o.L.length) = true := by simp; omega
  have H := hide h
  have HI := hide hI
  have HQ := hide hq
  have HTJ := hide htj
  have HG2 := hide hg2
  clear h hI ht hne hq hoa hg2c ht2 htj hg2
  go_enter Try.func41, Try.ntmps41
  go_wp2_with fail
  go_loopg [11] later.length (fun gk v wr => ∃ (kk nn' : Nat) (lv' : Option Addr) (lc' : Nat), kk + gk = later.length ∧ v = .int .i64 kk ∧ nn' ≤ k.nn + kk ∧
    ((later.take kk).foldl (SD.send x.K.length i t) ⟨k.s.M, x.l, x.sent⟩).Ok kk 100000 ∧ XAt W wr xb (workX x i k nn' lv' lc' ((later.take kk).foldl (SD.send x.K.length i t) ⟨k.s.M, x.l, x.sent⟩)))
  case atStart =>
    refine ⟨0, k.nn, x.lv, x.lc, by omega, rfl, by omega, unhide HQ, ?_⟩
    have e : workX x i k k.nn x.lv x.lc ⟨k.s.M, x.l, x.sent⟩ = x := by
      have : x.K.set i k = x.K := by
        obtain ⟨_, rfl⟩ := List.getElem?_eq_some_iff.1 hk
        exact List.set_getElem_self _
      simp only [workX]
      rw [this]
    simp only [List.take_zero, List.foldl_nil]
    rw [e]
    exact unhide H
  case round =>
    obtain ⟨kk, nn', lv', lc', hkg, rfl, hnn', hQ, hX⟩ := hrel
    have HX := hide hX
    have HQ2 := hide hQ
    have hs0 := hQ.s0
    have hs1 := hQ.s1
    have hll := hQ.ll
    clear c1 hgc hgz hcj hX hQ hgl hg2l hlt
    by_cases hkl : kk < later.length
    · obtain ⟨d, hd⟩ := some_of_lt hkl
      obtain ⟨b3, off3, rfl, hb3l, hb3c⟩ := ((unhide HI).only0 (Only.of_below ⟨(unhide HX).bl.os, (unhide HX).bl.tape, (unhide HX).bl.output, (unhide HX).bl.size, (unhide HX).bl.block⟩ [])) kk hkl
      have hdd : later[kk]'hkl = d := by
        rw [List.getElem?_eq_getElem hkl] at hd
        injection hd
      rw [hdd] at hb3c
      have hsn : (later.take (kk + 1)).foldl (SD.send x.K.length i t) ⟨k.s.M, x.l, x.sent⟩ = ((later.take kk).foldl (SD.send x.K.length i t) ⟨k.s.M, x.l, x.sent⟩).send x.K.length i t d := by
        rw [List.take_add_one, hd]
        simp [List.foldl_append]
      have HSN := hide hsn
      generalize (later.take kk).foldl (SD.send x.K.length i t) ⟨k.s.M, x.l, x.sent⟩ = q at *
      clear hsn hdd hd
      have g7 : decide (later.length ≤ kk) = false := by simp; omega
      have g8 : decide (kk < later.length) = true := by simp; omega
      by_cases hskip : d < 0 ∨ 1000 < d ∨ 1073741824 < t + d
      · have HSK : Hid (q.send x.K.length i t d = q) := if_pos hskip
        have HQ3 := hide ((unhide HQ2).send (n := x.K.length) (i := i) (t := t) (d := d))
        by_cases hd0 : d < 0
        · clear hskip
          go_wp2_with fail
          go_roundg (later.length - (kk + 1))
          case measure => omega
          case rel => exact ⟨kk + 1, nn', lv', lc', by omega, by go_num, by omega, by rw [unhide HSN]; exact unhide HQ3, by rw [unhide HSN, unhide HSK]; exact unhide HX⟩
        · by_cases hd1 : 1000 < d
          · clear hskip
            go_wp2_with fail
            go_roundg (later.length - (kk + 1))
            case measure => omega
            case rel => exact ⟨kk + 1, nn', lv', lc', by omega, by go_num, by omega, by rw [unhide HSN]; exact unhide HQ3, by rw [unhide HSN, unhide HSK]; exact unhide HX⟩
          · have hd2 : 1073741824 < t + d := by omega
            clear hskip
            go_wp2_with fail
            go_roundg (later.length - (kk + 1))
            case measure => omega
            case rel => exact ⟨kk + 1, nn', lv', lc', by omega, by go_num, by omega, by rw [unhide HSN]; exact unhide HQ3, by rw [unhide HSN, unhide HSK]; exact unhide HX⟩
      · have HSK : Hid (q.send x.K.length i t d = ⟨q.M ++ [(q.sent, t + d)], q.l ++ [⟨0, i, ((i : Int) + d) % (x.K.length : Int), q.sent, t + d⟩], q.sent + 1⟩) := if_neg hskip
        have HQ3 := hide ((unhide HQ2).send (n := x.K.length) (i := i) (t := t) (d := d))
        have hd0 : ¬ d < 0 := fun e => hskip (.inl e)
        have hd1 : ¬ 1000 < d := fun e => hskip (.inr (.inl e))
        have hd2 : ¬ 1073741824 < t + d := fun e => hskip (.inr (.inr e))
        clear hskip
        have q0 := (unhide HX).c0
        have q2 := (unhide HX).c2
        have q4 := (unhide HX).c4
        have z2 := (unhide HX).z 2
        have hxlt := (unhide HX).lt
        have HLR := hide (unhide HX).lr'
        simp only [workX, List.length_set] at q0 q2 q4 HLR
        obtain ⟨nK, hnK⟩ : ∃ nK, x.K.length = nK := ⟨_, rfl⟩
        have hnK0 : 0 < nK := by omega
        have hnK8 : nK ≤ 8 := by omega
        obtain ⟨dst, hdst⟩ : ∃ dst, ((i : Int) + d) % (nK : Int) = dst := ⟨_, rfl⟩
        have hdst2 : ((i : Int) + d).tmod (nK : Int) = dst := by rw [Int.tmod_eq_emod_of_nonneg (by omega), hdst]
        rw [hnK, hdst] at HSK
        rw [hnK] at q0
        have hn0 : ¬ (nK = 0) := by omega
        have hw1 : IntKind.i64.wrap ((i : Int) + d) = (i : Int) + d := by rw [Go.IntWalk.i64_left]; exact Go.IntWalk.wrap64_in _ (by omega)
        have hw2 : IntKind.i64.wrap (t + d) = t + d := by rw [Go.IntWalk.i64_left]; exact Go.IntWalk.wrap64_in _ (by omega)
        clear hdst
        go_upto_region 9 with fail
        go_cut [12] (fun dv wx => dv = .int .i64 d ∧ ∃ A' c', XAt W wx xb { workX x i k nn' lv' lc' q with lv := A', lc := c', l := q.l ++ [⟨0, (i : Int), dst, q.sent, t + d⟩] })
        case first =>
          refine wp_region_T (fun w' => w'.cell? ⟨xb, 0, none⟩ = some (.slice x.kv nK x.kc) ∧ w'.cell? ⟨xb, 2, none⟩ = some (.slice lv' q.l.length lc') ∧ w'.cell? ⟨xb, 4, none⟩ = some (.int .i64 q.sent)) 27 28 rfl (by kernel_rfl) (by kernel_rfl) (fun hN hcl => ?_)
          have hS0 : wr.drew.cell? ⟨xb, 0, none⟩ = some (.slice x.kv nK x.kc) ∧ wr.drew.cell? ⟨xb, 2, none⟩ = some (.slice lv' q.l.length lc') ∧ wr.drew.cell? ⟨xb, 4, none⟩ = some (.int .i64 q.sent) := ⟨q0, q2, q4⟩
          refine wpAnyT_take (i := 0) (v := ?_) (some 62) (by kernel_rfl) (by kernel_rfl) (by kernel_rfl) (by kernel_rfl) hN (by decide) hcl (fun _ _ _ h => h) (fun oi hoi => ?hy1) hS0 ?rs1
          case hy1 =>
            simp only [List.getElem?_toArray, List.getElem?_cons_succ, List.getElem?_cons_zero, Option.some.injEq] at hoi
            subst hoi
            refine ⟨rfl, Or.inl ⟨by rfl, ?_⟩⟩
            intro w hSw
            try dsimp only at hSw
            go_simp
            try with_reducible rfl
          clear hcl
          intro hcl
          try simp only [Act.put, List.setIfInBounds_toArray, List.set_cons_zero, List.set_cons_succ]
          refine wpAnyT_take (i := 1) (v := ?_) (some 63) (by kernel_rfl) (by kernel_rfl) (by kernel_rfl) (by kernel_rfl) hN (by decide) hcl (fun _ _ _ h => h) (fun oi hoi => ?hy2) hS0 ?rs2
          case hy2 =>
            simp only [List.getElem?_toArray, List.getElem?_cons_succ, List.getElem?_cons_zero, Option.some.injEq] at hoi
            subst hoi
            refine ⟨rfl, Or.inl ⟨by rfl, ?_⟩⟩
            intro w hSw
            try dsimp only at hSw
            go_simp
            try with_reducible rfl
          clear hcl
          intro hcl
          try simp only [Act.put, List.setIfInBounds_toArray, List.set_cons_zero, List.set_cons_succ]
          refine wpAnyT_take (i := 2) (v := ?_) (some 64) (by kernel_rfl) (by kernel_rfl) (by kernel_rfl) (by kernel_rfl) hN (by decide) hcl (fun _ _ _ h => h) (fun oi hoi => ?hy3) hS0 ?rs3
          case hy3 =>
            simp only [List.getElem?_toArray, List.getElem?_cons_succ, List.getElem?_cons_zero, Option.some.injEq] at hoi
            subst hoi
            refine ⟨rfl, Or.inl ⟨by rfl, ?_⟩⟩
            intro w hSw
            try dsimp only at hSw
            go_simp
            try with_reducible rfl
          clear hcl
          intro hcl
          try simp only [Act.put, List.setIfInBounds_toArray, List.set_cons_zero, List.set_cons_succ]
          refine wpAnyT_take (i := 3) (v := ?_) (some 65) (by kernel_rfl) (by kernel_rfl) (by kernel_rfl) (by kernel_rfl) hN (by decide) hcl (fun _ _ _ h => h) (fun oi hoi => ?hy4) hS0 ?rs4
          case hy4 =>
            simp only [List.getElem?_toArray, List.getElem?_cons_succ, List.getElem?_cons_zero, Option.some.injEq] at hoi
            subst hoi
            refine ⟨rfl, Or.inl ⟨by rfl, ?_⟩⟩
            intro w hSw
            try dsimp only at hSw
            go_simp
            try with_reducible rfl
          clear hcl
          intro hcl
          try simp only [Act.put, List.setIfInBounds_toArray, List.set_cons_zero, List.set_cons_succ]
          refine wpAnyT_take (i := 4) (v := ?_) (some 66) (by kernel_rfl) (by kernel_rfl) (by kernel_rfl) (by kernel_rfl) hN (by decide) hcl (fun _ _ _ h => h) (fun oi hoi => ?hy5) hS0 ?rs5
          case hy5 =>
            simp only [List.getElem?_toArray, List.getElem?_cons_succ, List.getElem?_cons_zero, Option.some.injEq] at hoi
            subst hoi
            refine ⟨rfl, Or.inl ⟨by rfl, ?_⟩⟩
            intro w hSw
            try dsimp only at hSw
            go_simp
            try with_reducible rfl
          clear hcl
          intro hcl
          try simp only [Act.put, List.setIfInBounds_toArray, List.set_cons_zero, List.set_cons_succ]
          refine wpAnyT_take (i := 5) (v := ?_) (some 67) (by kernel_rfl) (by kernel_rfl) (by kernel_rfl) (by kernel_rfl) hN (by decide) hcl (fun _ _ _ h => h) (fun oi hoi => ?hy6) hS0 ?rs6
          case hy6 =>
            simp only [List.getElem?_toArray, List.getElem?_cons_succ, List.getElem?_cons_zero, Option.some.injEq] at hoi
            subst hoi
            refine ⟨rfl, Or.inl ⟨by rfl, ?_⟩⟩
            intro w hSw
            try dsimp only at hSw
            go_simp
            try with_reducible rfl
          clear hcl
          intro hcl
          try simp only [Act.put, List.setIfInBounds_toArray, List.set_cons_zero, List.set_cons_succ]
          refine wpAnyT_take (i := 6) (v := ?_) (some 68) (by kernel_rfl) (by kernel_rfl) (by kernel_rfl) (by kernel_rfl) hN (by decide) hcl (fun _ _ _ h => h) (fun oi hoi => ?hy7) hS0 ?rs7
          case hy7 =>
            simp only [List.getElem?_toArray, List.getElem?_cons_succ, List.getElem?_cons_zero, Option.some.injEq] at hoi
            subst hoi
            refine ⟨rfl, Or.inl ⟨by rfl, ?_⟩⟩
            intro w hSw
            try dsimp only at hSw
            go_simp
            try with_reducible rfl
          clear hcl
          intro hcl
          try simp only [Act.put, List.setIfInBounds_toArray, List.set_cons_zero, List.set_cons_succ]
          refine wpAnyT_take (i := 7) (v := ?_) (some 69) (by kernel_rfl) (by kernel_rfl) (by kernel_rfl) (by kernel_rfl) hN (by decide) hcl (fun _ _ _ h => h) (fun oi hoi => ?hy8) hS0 ?rs8
          case hy8 =>
            simp only [List.getElem?_toArray, List.getElem?_cons_succ, List.getElem?_cons_zero, Option.some.injEq] at hoi
            subst hoi
            refine ⟨rfl, Or.inl ⟨by rfl, ?_⟩⟩
            intro w hSw
            try dsimp only at hSw
            go_simp
            try with_reducible rfl
          clear hcl
          intro hcl
          try simp only [Act.put, List.setIfInBounds_toArray, List.set_cons_zero, List.set_cons_succ]
          refine wpAnyT_take (i := 8) (v := ?_) (some 70) (by kernel_rfl) (by kernel_rfl) (by kernel_rfl) (by kernel_rfl) hN (by decide) hcl (fun _ _ _ h => h) (fun oi hoi => ?hy9) hS0 ?rs9
          case hy9 =>
            simp only [List.getElem?_toArray, List.getElem?_cons_succ, List.getElem?_cons_zero, Option.some.injEq] at hoi
            subst hoi
            refine ⟨rfl, Or.inl ⟨by rfl, ?_⟩⟩
            intro w hSw
            try dsimp only at hSw
            go_simp
            try with_reducible rfl
          clear hcl
          intro hcl
          try simp only [Act.put, List.setIfInBounds_toArray, List.set_cons_zero, List.set_cons_succ]
          refine wpAnyT_take (i := 9) (v := ?_) (some 71) (by kernel_rfl) (by kernel_rfl) (by kernel_rfl) (by kernel_rfl) hN (by decide) hcl (fun _ _ _ h => h) (fun oi hoi => ?hy10) hS0 ?rs10
          case hy10 =>
            simp only [List.getElem?_toArray, List.getElem?_cons_succ, List.getElem?_cons_zero, Option.some.injEq] at hoi
            subst hoi
            refine ⟨rfl, Or.inl ⟨by rfl, ?_⟩⟩
            intro w hSw
            try dsimp only at hSw
            go_simp
            try with_reducible rfl
          clear hcl
          intro hcl
          try simp only [Act.put, List.setIfInBounds_toArray, List.set_cons_zero, List.set_cons_succ]
          refine wpAnyT_take (i := 10) (v := ?_) (some 72) (by kernel_rfl) (by kernel_rfl) (by kernel_rfl) (by kernel_rfl) hN (by decide) hcl (fun _ _ _ h => h) (fun oi hoi => ?hy11) hS0 ?rs11
          case hy11 =>
            simp only [List.getElem?_toArray, List.getElem?_cons_succ, List.getElem?_cons_zero, Option.some.injEq] at hoi
            subst hoi
            refine ⟨rfl, Or.inl ⟨by rfl, ?_⟩⟩
            intro w hSw
            try dsimp only at hSw
            go_simp
            try with_reducible rfl
          clear hcl
          intro hcl
          try simp only [Act.put, List.setIfInBounds_toArray, List.set_cons_zero, List.set_cons_succ]
          refine wpAnyT_take (i := 11) (v := ?_) (some 73) (by kernel_rfl) (by kernel_rfl) (by kernel_rfl) (by kernel_rfl) hN (by decide) hcl (fun _ _ _ h => h) (fun oi hoi => ?hy12) hS0 ?rs12
          case hy12 =>
            simp only [List.getElem?_toArray, List.getElem?_cons_succ, List.getElem?_cons_zero, Option.some.injEq] at hoi
            subst hoi
            refine ⟨rfl, Or.inl ⟨by rfl, ?_⟩⟩
            intro w hSw
            try dsimp only at hSw
            go_simp
            try with_reducible rfl
          clear hcl
          intro hcl
          try simp only [Act.put, List.setIfInBounds_toArray, List.set_cons_zero, List.set_cons_succ]
          refine wpAnyT_take (i := 12) (v := ?_) (some 74) (by kernel_rfl) (by kernel_rfl) (by kernel_rfl) (by kernel_rfl) hN (by decide) hcl (fun _ _ _ h => h) (fun oi hoi => ?hy13) hS0 ?rs13
          case hy13 =>
            simp only [List.getElem?_toArray, List.getElem?_cons_succ, List.getElem?_cons_zero, Option.some.injEq] at hoi
            subst hoi
            refine ⟨rfl, Or.inl ⟨by rfl, ?_⟩⟩
            intro w hSw
            try dsimp only at hSw
            go_simp
            try with_reducible rfl
          clear hcl
          intro hcl
          try simp only [Act.put, List.setIfInBounds_toArray, List.set_cons_zero, List.set_cons_succ]
          refine wpAnyT_take (i := 13) (v := ?_) (some 75) (by kernel_rfl) (by kernel_rfl) (by kernel_rfl) (by kernel_rfl) hN (by decide) hcl (fun _ _ _ h => h) (fun oi hoi => ?hy14) hS0 ?rs14
          case hy14 =>
            simp only [List.getElem?_toArray, List.getElem?_cons_succ, List.getElem?_cons_zero, Option.some.injEq] at hoi
            subst hoi
            refine ⟨rfl, Or.inl ⟨by rfl, ?_⟩⟩
            intro w hSw
            try dsimp only at hSw
            go_simp
            try with_reducible rfl
          clear hcl
          intro hcl
          try simp only [Act.put, List.setIfInBounds_toArray, List.set_cons_zero, List.set_cons_succ]
          refine wpAnyT_take (i := 14) (v := ?_) (some 76) (by kernel_rfl) (by kernel_rfl) (by kernel_rfl) (by kernel_rfl) hN (by decide) hcl (fun _ _ _ h => h) (fun oi hoi => ?hy15) hS0 ?rs15
          case hy15 =>
            simp only [List.getElem?_toArray, List.getElem?_cons_succ, List.getElem?_cons_zero, Option.some.injEq] at hoi
            subst hoi
            refine ⟨rfl, Or.inl ⟨by rfl, ?_⟩⟩
            intro w hSw
            try dsimp only at hSw
            go_simp
            try with_reducible rfl
          clear hcl
          intro hcl
          try simp only [Act.put, List.setIfInBounds_toArray, List.set_cons_zero, List.set_cons_succ]
          refine wpAnyT_take (i := 15) (v := ?_) (some 77) (by kernel_rfl) (by kernel_rfl) (by kernel_rfl) (by kernel_rfl) hN (by decide) hcl (fun _ _ _ h => h) (fun oi hoi => ?hy16) hS0 ?rs16
          case hy16 =>
            simp only [List.getElem?_toArray, List.getElem?_cons_succ, List.getElem?_cons_zero, Option.some.injEq] at hoi
            subst hoi
            refine ⟨rfl, Or.inl ⟨by rfl, ?_⟩⟩
            intro w hSw
            try dsimp only at hSw
            go_simp
            try with_reducible rfl
          clear hcl
          intro hcl
          try simp only [Act.put, List.setIfInBounds_toArray, List.set_cons_zero, List.set_cons_succ]
          refine wpAnyT_take (i := 16) (v := ?_) (some 78) (by kernel_rfl) (by kernel_rfl) (by kernel_rfl) (by kernel_rfl) hN (by decide) hcl (fun _ _ _ h => h) (fun oi hoi => ?hy17) hS0 ?rs17
          case hy17 =>
            simp only [List.getElem?_toArray, List.getElem?_cons_succ, List.getElem?_cons_zero, Option.some.injEq] at hoi
            subst hoi
            refine ⟨rfl, Or.inl ⟨by rfl, ?_⟩⟩
            intro w hSw
            try dsimp only at hSw
            go_simp
            try with_reducible rfl
          clear hcl
          intro hcl
          try simp only [Act.put, List.setIfInBounds_toArray, List.set_cons_zero, List.set_cons_succ]
          refine wpAnyT_take (i := 17) (v := ?_) (some 79) (by kernel_rfl) (by kernel_rfl) (by kernel_rfl) (by kernel_rfl) hN (by decide) hcl (fun _ _ _ h => h) (fun oi hoi => ?hy18) hS0 ?rs18
          case hy18 =>
            simp only [List.getElem?_toArray, List.getElem?_cons_succ, List.getElem?_cons_zero, Option.some.injEq] at hoi
            subst hoi
            refine ⟨rfl, Or.inl ⟨by rfl, ?_⟩⟩
            intro w hSw
            try dsimp only at hSw
            go_simp
            try with_reducible rfl
          clear hcl
          intro hcl
          try simp only [Act.put, List.setIfInBounds_toArray, List.set_cons_zero, List.set_cons_succ]
          refine wpAnyT_take (i := 18) (v := ?_) (some 80) (by kernel_rfl) (by kernel_rfl) (by kernel_rfl) (by kernel_rfl) hN (by decide) hcl (fun _ _ _ h => h) (fun oi hoi => ?hy19) hS0 ?rs19
          case hy19 =>
            simp only [List.getElem?_toArray, List.getElem?_cons_succ, List.getElem?_cons_zero, Option.some.injEq] at hoi
            subst hoi
            refine ⟨rfl, Or.inl ⟨by rfl, ?_⟩⟩
            intro w hSw
            try dsimp only at hSw
            go_simp
            try with_reducible rfl
          clear hcl
          intro hcl
          try simp only [Act.put, List.setIfInBounds_toArray, List.set_cons_zero, List.set_cons_succ]
          refine wpAnyT_take (i := 19) (v := ?_) (some 81) (by kernel_rfl) (by kernel_rfl) (by kernel_rfl) (by kernel_rfl) hN (by decide) hcl (fun _ _ _ h => h) (fun oi hoi => ?hy20) hS0 ?rs20
          case hy20 =>
            simp only [List.getElem?_toArray, List.getElem?_cons_succ, List.getElem?_cons_zero, Option.some.injEq] at hoi
            subst hoi
            refine ⟨rfl, Or.inl ⟨by rfl, ?_⟩⟩
            intro w hSw
            try dsimp only at hSw
            go_simp
            try with_reducible rfl
          clear hcl
          intro hcl
          try simp only [Act.put, List.setIfInBounds_toArray, List.set_cons_zero, List.set_cons_succ]
          refine wpAnyT_take (i := 20) (v := ?_) (some 82) (by kernel_rfl) (by kernel_rfl) (by kernel_rfl) (by kernel_rfl) hN (by decide) hcl (fun _ _ _ h => h) (fun oi hoi => ?hy21) hS0 ?rs21
          case hy21 =>
            simp only [List.getElem?_toArray, List.getElem?_cons_succ, List.getElem?_cons_zero, Option.some.injEq] at hoi
            subst hoi
            refine ⟨rfl, Or.inl ⟨by rfl, ?_⟩⟩
            intro w hSw
            try dsimp only at hSw
            go_simp
            try with_reducible rfl
          clear hcl
          intro hcl
          try simp only [Act.put, List.setIfInBounds_toArray, List.set_cons_zero, List.set_cons_succ]
          refine wpAnyT_take (i := 21) (v := ?_) (some 83) (by kernel_rfl) (by kernel_rfl) (by kernel_rfl) (by kernel_rfl) hN (by decide) hcl (fun _ _ _ h => h) (fun oi hoi => ?hy22) hS0 ?rs22
          case hy22 =>
            simp only [List.getElem?_toArray, List.getElem?_cons_succ, List.getElem?_cons_zero, Option.some.injEq] at hoi
            subst hoi
            refine ⟨rfl, Or.inl ⟨by rfl, ?_⟩⟩
            intro w hSw
            try dsimp only at hSw
            go_simp
            try with_reducible rfl
          clear hcl
          intro hcl
          try simp only [Act.put, List.setIfInBounds_toArray, List.set_cons_zero, List.set_cons_succ]
          refine wpAnyT_take (i := 22) (v := ?_) (some 84) (by kernel_rfl) (by kernel_rfl) (by kernel_rfl) (by kernel_rfl) hN (by decide) hcl (fun _ _ _ h => h) (fun oi hoi => ?hy23) hS0 ?rs23
          case hy23 =>
            simp only [List.getElem?_toArray, List.getElem?_cons_succ, List.getElem?_cons_zero, Option.some.injEq] at hoi
            subst hoi
            refine ⟨rfl, Or.inl ⟨by rfl, ?_⟩⟩
            intro w hSw
            try dsimp only at hSw
            go_simp
            try with_reducible rfl
          clear hcl
          intro hcl
          try simp only [Act.put, List.setIfInBounds_toArray, List.set_cons_zero, List.set_cons_succ]
          refine wpAnyT_one (i := 23) (by kernel_rfl) (by kernel_rfl) hcl (fun oi hoi K' hK' => ?_)
          clear hcl
          simp only [List.getElem?_toArray, List.getElem?_cons_succ, List.getElem?_cons_zero, Option.some.injEq] at hoi
          subst hoi
          go_simp
          refine (unhide hK') _ _ (.inr ⟨(World.cell?_alloc_lt _ _ _ hxlt).trans q0, (World.cell?_alloc_lt _ _ _ hxlt).trans q2, (World.cell?_alloc_lt _ _ _ hxlt).trans q4⟩) (fun hcl => ?_)
          clear hK' K'
          refine wpAnyT_one (i := 24) (by kernel_rfl) (by kernel_rfl) hcl (fun oi hoi K' hK' => ?_)
          clear hcl
          simp only [List.getElem?_toArray, List.getElem?_cons_succ, List.getElem?_cons_zero, Option.some.injEq] at hoi
          subst hoi
          refine step_append_lies _ rfl (.tmp 66) (.tmp 85) 51 rfl W.heap.size 79 i0 (.agg #[.int .i64 0, .int .i64 0, .int .i64 0, .int .i64 0, .int .i64 0]) 5 40 Try.underlying51 hi hz0 hz1 hz2 rfl (by decide) _ _ _ rfl (((unhide HLR).alloc _).drew) ⟨wr.heap.size, 0, none⟩ 1 1 (Pk.cells ⟨0, (i : Int), dst, q.sent, t + d⟩) rfl rfl (new_cells_drew _ _ 79 _ rfl) (pk_one _) (by omega) (by unfold maxLen; omega) (by omega) (by have := (unhide HX).bl.size; simp; omega) _ rfl ?_
          intro g9' cap9 w1 hown hgrow hat hlt9
          have HST := hide (pushed_step (unhide HX) ⟨0, (i : Int), dst, q.sent, t + d⟩ hown hgrow)
          have y0 := ((unhide HST).1.cell (p := ⟨xb, 0, none⟩) hxlt (unhide HST).2.1).trans q0
          have y2 := ((unhide HST).1.frozen (p := ⟨xb, 2, none⟩) hxlt (unhide HST).2.1).trans z2
          have yc := ((unhide HST).1.cell (p := ⟨xb, 2, none⟩) hxlt (unhide HST).2.1).trans q2
          have y4 := ((unhide HST).1.cell (p := ⟨xb, 4, none⟩) hxlt (unhide HST).2.1).trans q4
          have hS1 := And.intro y0 (And.intro yc y4)
          have hxl1 : xb < w1.heap.size := Nat.lt_of_lt_of_le hxlt (unhide HST).1.size
          clear hown hgrow hat hlt9 hS0
          refine (unhide hK') _ _ (.inr hS1) (fun hcl => ?_)
          clear hK' K'
          simp only [Act.put, List.setIfInBounds_toArray, List.set_cons_zero, List.set_cons_succ]
          refine wpAnyT_take (i := 25) (v := ?_) (some 87) (by kernel_rfl) (by kernel_rfl) (by kernel_rfl) (by kernel_rfl) hN (by decide) hcl (fun _ _ _ h => h) (fun oi hoi => ?hy24) hS1 ?rs24
          case hy24 =>
            simp only [List.getElem?_toArray, List.getElem?_cons_succ, List.getElem?_cons_zero, Option.some.injEq] at hoi
            subst hoi
            refine ⟨rfl, Or.inl ⟨by rfl, ?_⟩⟩
            intro w hSw
            try dsimp only at hSw
            go_simp
            try with_reducible rfl
          clear hcl
          intro hcl
          try simp only [Act.put, List.setIfInBounds_toArray, List.set_cons_zero, List.set_cons_succ]
          refine wpAnyT_take (i := 26) (v := ?_) (some 88) (by kernel_rfl) (by kernel_rfl) (by kernel_rfl) (by kernel_rfl) hN (by decide) hcl (fun _ _ _ h => h) (fun oi hoi => ?hy25) hS1 ?rs25
          case hy25 =>
            simp only [List.getElem?_toArray, List.getElem?_cons_succ, List.getElem?_cons_zero, Option.some.injEq] at hoi
            subst hoi
            refine ⟨rfl, Or.inl ⟨by rfl, ?_⟩⟩
            intro w hSw
            try dsimp only at hSw
            go_simp
            try with_reducible rfl
          clear hcl
          intro hcl
          try simp only [Act.put, List.setIfInBounds_toArray, List.set_cons_zero, List.set_cons_succ]
          refine wpAnyT_one (i := 27) (by kernel_rfl) (by kernel_rfl) hcl (fun oi hoi K' hK' => ?_)
          clear hcl
          simp only [List.getElem?_toArray, List.getElem?_cons_succ, List.getElem?_cons_zero, Option.some.injEq] at hoi
          subst hoi
          go_simp
          refine (unhide hK') _ _ (.inl rfl) (fun hcl => ?_)
          refine wpAnyT_done (by kernel_rfl) ?_ _
          clear hK' K' hcl hN
          go_wp2_with fail
          go_meet
          exact ⟨rfl, _, _, (unhide HST).2.2⟩
        case rest =>
          obtain ⟨rfl, A', c', hX3⟩ := hcut
          have hIk : (workX x i k nn' lv' lc' q).K[i]? = some ⟨k.wb, k.mb, nn', ⟨k.s.rd, k.s.lo, q.M⟩⟩ := by
            simp only [workX]
            rw [List.getElem?_set_self hik]
          have HX3 := hide hX3
          have hka := hX3.ka _ (List.mem_of_getElem? hIk)
          simp only at hka
          obtain ⟨gk2, hkv, hgkl, hkc⟩ := hX3.atK hIk
          simp only [workX] at hkv hkc
          have r0 := hX3.c0
          have r4 := hX3.c4
          have r5 := hX3.c5
          have rz5 := hX3.z 5
          have rz4 := hX3.z 4
          have hxl3 := hX3.lt
          simp only [workX, List.length_set] at r0 r4
          rw [hkv, hnK] at r0
          have hcode : sentCode q.M q.sent (t + d) = 0 := (unhide HQ2).code ⟨by omega, by omega⟩
          have HC : Hid (Calls Try.prog 32 #[.pointer (some ⟨k.wb, 0, none⟩), .int .i64 q.sent, .int .i64 (t + d)] wc.drew fun e w' => e = .returned (.int .i64 0) ∧ WAt w' k.wb k.mb (nn' + 1) k.s.rd k.s.lo (q.M ++ [(q.sent, t + d)]) ∧ Only [k.wb, k.mb] wc.drew w') := by
            have h' := sent_any (no := q.sent) (at_ := t + d) (hka.only0 ((Only.refl _ _).drew)) (by omega) (show In64 q.sent from ⟨by omega, by omega⟩).wf
            rw [hcode] at h'
            have e : sentM q.M q.sent (t + d) = q.M ++ [(q.sent, t + d)] := by simp only [sentM]; rw [if_pos hcode]
            rw [e] at h'
            exact h'
          have HNX : Hid (xb ∉ [k.wb, k.mb] ∧ gk2 ∉ [k.wb, k.mb]) := by
            obtain ⟨D, hD, _⟩ := hka.mp
            have hkr := hX3.kr
            refine ⟨?_, ?_⟩
            · simp only [List.mem_cons, List.not_mem_nil, or_false, not_or]
              exact ⟨row_ne hX3.hd hka.hd (by decide), fun e => map_row_ne hD hX3.hd e.symm⟩
            · simp only [List.mem_cons, List.not_mem_nil, or_false, not_or]
              have e1 := owns_row_ne hkr hka.hd (by decide) gk2 (by simp [workX, hkv, Value.ownBlock])
              have e2 := map_owns_ne hD hkr gk2 (by simp [workX, hkv, Value.ownBlock])
              exact ⟨e1, fun e => e2 e.symm⟩
          have HNE : Hid (xb ≠ gk2) := fun e => by
            have h1 := kind_row hX3.hd
            have h2 := kind_owns hX3.kr gk2 (by simp [workX, hkv, Value.ownBlock])
            rw [e, h2] at h1
            injection h1 with h1
            exact absurd h1 (by decide)
          clear hka hcode hX3 q0 q2 q4 z2 hxlt hb3c
          have gi : decide (nK ≤ i) = false := by simp; omega
          have gi2 : decide (i < nK) = true := by simp; omega
          have gi3 : (0 : Int) ≤ (i : Int) := by omega
          have gi4 : (i : Int) < (nK : Int) := by omega
          have gi5 : ¬ ((nK : Int) ≤ (i : Int)) := by omega
          go_wp2_with fail
          go_region_held3 (fun w' => w'.cell? ⟨xb, 0, none⟩ = some (.slice (some ⟨gk2, 0, none⟩) nK x.kc) ∧ w'.cell? ⟨gk2, i, none⟩ = some (.pointer (some ⟨k.wb, 0, none⟩)) ∧ w'.cell? ⟨xb, 4, none⟩ = some (.int .i64 q.sent) ∧ w'.cell? ⟨xb, 5, none⟩ = some (.bool false)) (first | exact ⟨r0, hkc, r4, r5⟩ | exact unhide HKP | exact keepBad HKP (unhide HNE) | go_keep) (first | (go_at_call 32; (with_reducible refine Calls.mono (unhide HC) ?_); rintro e w2 ⟨rfl, hW2, hO2⟩; have HKP := hide (And.intro ((hO2.cell (p := ⟨xb, 0, none⟩) hxl3 (unhide HNX).1).trans r0) (And.intro ((hO2.cell (p := ⟨gk2, i, none⟩) hgkl (unhide HNX).2).trans hkc) (And.intro ((hO2.cell (p := ⟨xb, 4, none⟩) hxl3 (unhide HNX).1).trans r4) ((hO2.cell (p := ⟨xb, 5, none⟩) hxl3 (unhide HNX).1).trans r5)))); have y5 := (hO2.frozen (p := ⟨xb, 5, none⟩) hxl3 (unhide HNX).1).trans rz5; have hxl2 : xb < w2.heap.size := Nat.lt_of_lt_of_le hxl3 hO2.size; have HW2 := hide hW2; have HO2 : Hid (Only [k.wb, k.mb] wc w2) := hO2.undrew2; clear hW2 hO2))
          have hX4 := ((unhide HX3).worker (s' := ⟨k.s.rd, k.s.lo, q.M ++ [(q.sent, t + d)]⟩) hIk (unhide HW2) (unhide HO2)).setBad
          have HX4 := hide hX4
          clear hX4 r0 r4 r5 rz5 rz4 hkc
          generalize w2.setCell ⟨xb, 5, none⟩ (.bool false) = wz at *
          clear HKP y5 hxl2 HC HO2 HW2
          have r4 := (unhide HX4).c4
          have rz4 := (unhide HX4).z 4
          have hxl4 := (unhide HX4).lt
          simp only [workX] at r4
          go_wp2_with fail
          have hX5 := (unhide HX4).setSent (q.sent + 1)
          have ex : ({ ({ (workX x i k nn' lv' lc' q) with lv := A', lc := c', l := q.l ++ [⟨0, (i : Int), dst, q.sent, t + d⟩], K := (workX x i k nn' lv' lc' q).K.set i ⟨k.wb, k.mb, nn' + 1, ⟨k.s.rd, k.s.lo, q.M ++ [(q.sent, t + d)]⟩⟩ } : XS) with sent := q.sent + 1 } : XS) = workX x i k (nn' + 1) A' c' ⟨q.M ++ [(q.sent, t + d)], q.l ++ [⟨0, (i : Int), dst, q.sent, t + d⟩], q.sent + 1⟩ := by
            simp [workX, List.set_set]
          go_roundg (later.length - (kk + 1))
          case measure => omega
          case rel =>
            refine ⟨kk + 1, nn' + 1, A', c', by omega, by go_num, by omega, by rw [unhide HSN]; exact unhide HQ3, ?_⟩
            rw [unhide HSN, hnK, unhide HSK, ← ex]
            exact hX5
    · have g8 : decide (kk < later.length) = false := by simp; omega
      have hte : later.take kk = later := List.take_of_length_le (by omega)
      rw [hte] at HX HQ2
      clear hte
      obtain ⟨q, hq⟩ : ∃ q, later.foldl (SD.send x.K.length i t) ⟨k.s.M, x.l, x.sent⟩ = q := ⟨_, rfl⟩
      rw [hq] at HX HQ2
      have HQE := hide hq
      clear hq hs0 hs1 hll
      have c1 := (unhide HX).c1
      simp only [workX] at c1
      rw [hov] at c1
      have hoX : (workX x i k nn' lv' lc' q).O[i]? = some o := ho
      obtain ⟨g', hov', hgl, hgc, hgz⟩ := (unhide HX).atO hoX
      simp only [workX] at hov'
      rw [hov] at hov'
      injection hov' with hov'
      injection hov' with hov'
      subst hov'
      rw [unhide HG2] at hgc
      go_wp2_with fail
      obtain ⟨nO, hnO⟩ : ∃ nO, x.O.length = nO := ⟨_, rfl⟩
      rw [hnO] at c1
      have gi : decide (nO ≤ i) = false := by simp; omega
      have gi2 : decide (i < nO) = true := by simp; omega
      have gi3 : (0 : Int) ≤ (i : Int) := by omega
      have gi4 : (i : Int) < (nO : Int) := by omega
      have gi5 : ¬ ((nO : Int) ≤ (i : Int)) := by omega
      have hxlt := (unhide HX).lt
      refine wp_region_T (fun w' => w'.cell? ⟨xb, 1, none⟩ = some (.slice (some ⟨g, 0, none⟩) nO x.oc) ∧ w'.cell? ⟨g, i, none⟩ = some (.slice (some ⟨g2, 0, none⟩) o.L.length o.c)) 15 16 rfl (by kernel_rfl) (by kernel_rfl) (fun hN hcl => ?_)
      have hS0 : wr.drew.cell? ⟨xb, 1, none⟩ = some (.slice (some ⟨g, 0, none⟩) nO x.oc) ∧ wr.drew.cell? ⟨g, i, none⟩ = some (.slice (some ⟨g2, 0, none⟩) o.L.length o.c) := ⟨c1, hgc⟩
      refine wpAnyT_take (i := 0) (v := ?_) (some 121) (by kernel_rfl) (by kernel_rfl) (by kernel_rfl) (by kernel_rfl) hN (by decide) hcl (fun _ _ _ h => h) (fun oi hoi => ?hy101) hS0 ?rs101
      case hy101 =>
        simp only [List.getElem?_toArray, List.getElem?_cons_succ, List.getElem?_cons_zero, Option.some.injEq] at hoi
        subst hoi
        refine ⟨rfl, Or.inl ⟨by rfl, ?_⟩⟩
        intro w hSw
        try dsimp only at hSw
        go_simp
        try with_reducible rfl
      clear hcl
      intro hcl
      try simp only [Act.put, List.setIfInBounds_toArray, List.set_cons_zero, List.set_cons_succ]
      refine wpAnyT_take (i := 1) (v := ?_) (some 122) (by kernel_rfl) (by kernel_rfl) (by kernel_rfl) (by kernel_rfl) hN (by decide) hcl (fun _ _ _ h => h) (fun oi hoi => ?hy102) hS0 ?rs102
      case hy102 =>
        simp only [List.getElem?_toArray, List.getElem?_cons_succ, List.getElem?_cons_zero, Option.some.injEq] at hoi
        subst hoi
        refine ⟨rfl, Or.inl ⟨by rfl, ?_⟩⟩
        intro w hSw
        try dsimp only at hSw
        go_simp
        try with_reducible rfl
      clear hcl
      intro hcl
      try simp only [Act.put, List.setIfInBounds_toArray, List.set_cons_zero, List.set_cons_succ]
      refine wpAnyT_take (i := 2) (v := ?_) (some 123) (by kernel_rfl) (by kernel_rfl) (by kernel_rfl) (by kernel_rfl) hN (by decide) hcl (fun _ _ _ h => h) (fun oi hoi => ?hy103) hS0 ?rs103
      case hy103 =>
        simp only [List.getElem?_toArray, List.getElem?_cons_succ, List.getElem?_cons_zero, Option.some.injEq] at hoi
        subst hoi
        refine ⟨rfl, Or.inl ⟨by rfl, ?_⟩⟩
        intro w hSw
        try dsimp only at hSw
        go_simp
        try with_reducible rfl
      clear hcl
      intro hcl
      try simp only [Act.put, List.setIfInBounds_toArray, List.set_cons_zero, List.set_cons_succ]
      refine wpAnyT_take (i := 3) (v := ?_) (some 124) (by kernel_rfl) (by kernel_rfl) (by kernel_rfl) (by kernel_rfl) hN (by decide) hcl (fun _ _ _ h => h) (fun oi hoi => ?hy104) hS0 ?rs104
      case hy104 =>
        simp only [List.getElem?_toArray, List.getElem?_cons_succ, List.getElem?_cons_zero, Option.some.injEq] at hoi
        subst hoi
        refine ⟨rfl, Or.inl ⟨by rfl, ?_⟩⟩
        intro w hSw
        try dsimp only at hSw
        go_simp
        try with_reducible rfl
      clear hcl
      intro hcl
      try simp only [Act.put, List.setIfInBounds_toArray, List.set_cons_zero, List.set_cons_succ]
      refine wpAnyT_take (i := 4) (v := ?_) (some 125) (by kernel_rfl) (by kernel_rfl) (by kernel_rfl) (by kernel_rfl) hN (by decide) hcl (fun _ _ _ h => h) (fun oi hoi => ?hy105) hS0 ?rs105
      case hy105 =>
        simp only [List.getElem?_toArray, List.getElem?_cons_succ, List.getElem?_cons_zero, Option.some.injEq] at hoi
        subst hoi
        refine ⟨rfl, Or.inl ⟨by rfl, ?_⟩⟩
        intro w hSw
        try dsimp only at hSw
        go_simp
        try with_reducible rfl
      clear hcl
      intro hcl
      try simp only [Act.put, List.setIfInBounds_toArray, List.set_cons_zero, List.set_cons_succ]
      refine wpAnyT_take (i := 5) (v := ?_) (some 126) (by kernel_rfl) (by kernel_rfl) (by kernel_rfl) (by kernel_rfl) hN (by decide) hcl (fun _ _ _ h => h) (fun oi hoi => ?hy106) hS0 ?rs106
      case hy106 =>
        simp only [List.getElem?_toArray, List.getElem?_cons_succ, List.getElem?_cons_zero, Option.some.injEq] at hoi
        subst hoi
        refine ⟨rfl, Or.inl ⟨by rfl, ?_⟩⟩
        intro w hSw
        try dsimp only at hSw
        go_simp
        try with_reducible rfl
      clear hcl
      intro hcl
      try simp only [Act.put, List.setIfInBounds_toArray, List.set_cons_zero, List.set_cons_succ]
      refine wpAnyT_take (i := 6) (v := ?_) (some 127) (by kernel_rfl) (by kernel_rfl) (by kernel_rfl) (by kernel_rfl) hN (by decide) hcl (fun _ _ _ h => h) (fun oi hoi => ?hy107) hS0 ?rs107
      case hy107 =>
        simp only [List.getElem?_toArray, List.getElem?_cons_succ, List.getElem?_cons_zero, Option.some.injEq] at hoi
        subst hoi
        refine ⟨rfl, Or.inl ⟨by rfl, ?_⟩⟩
        intro w hSw
        try dsimp only at hSw
        go_simp
        try with_reducible rfl
      clear hcl
      intro hcl
      try simp only [Act.put, List.setIfInBounds_toArray, List.set_cons_zero, List.set_cons_succ]
      refine wpAnyT_take (i := 7) (v := ?_) (some 128) (by kernel_rfl) (by kernel_rfl) (by kernel_rfl) (by kernel_rfl) hN (by decide) hcl (fun _ _ _ h => h) (fun oi hoi => ?hy108) hS0 ?rs108
      case hy108 =>
        simp only [List.getElem?_toArray, List.getElem?_cons_succ, List.getElem?_cons_zero, Option.some.injEq] at hoi
        subst hoi
        refine ⟨rfl, Or.inl ⟨by rfl, ?_⟩⟩
        intro w hSw
        try dsimp only at hSw
        go_simp
        try with_reducible rfl
      clear hcl
      intro hcl
      try simp only [Act.put, List.setIfInBounds_toArray, List.set_cons_zero, List.set_cons_succ]
      refine wpAnyT_take (i := 8) (v := ?_) (some 129) (by kernel_rfl) (by kernel_rfl) (by kernel_rfl) (by kernel_rfl) hN (by decide) hcl (fun _ _ _ h => h) (fun oi hoi => ?hy109) hS0 ?rs109
      case hy109 =>
        simp only [List.getElem?_toArray, List.getElem?_cons_succ, List.getElem?_cons_zero, Option.some.injEq] at hoi
        subst hoi
        refine ⟨rfl, Or.inl ⟨by rfl, ?_⟩⟩
        intro w hSw
        try dsimp only at hSw
        go_simp
        try with_reducible rfl
      clear hcl
      intro hcl
      try simp only [Act.put, List.setIfInBounds_toArray, List.set_cons_zero, List.set_cons_succ]
      refine wpAnyT_take (i := 9) (v := ?_) (some 130) (by kernel_rfl) (by kernel_rfl) (by kernel_rfl) (by kernel_rfl) hN (by decide) hcl (fun _ _ _ h => h) (fun oi hoi => ?hy110) hS0 ?rs110
      case hy110 =>
        simp only [List.getElem?_toArray, List.getElem?_cons_succ, List.getElem?_cons_zero, Option.some.injEq] at hoi
        subst hoi
        refine ⟨rfl, Or.inl ⟨by rfl, ?_⟩⟩
        intro w hSw
        try dsimp only at hSw
        go_simp
        try with_reducible rfl
      clear hcl
      intro hcl
      try simp only [Act.put, List.setIfInBounds_toArray, List.set_cons_zero, List.set_cons_succ]
      refine wpAnyT_take (i := 10) (v := ?_) (some 131) (by kernel_rfl) (by kernel_rfl) (by kernel_rfl) (by kernel_rfl) hN (by decide) hcl (fun _ _ _ h => h) (fun oi hoi => ?hy111) hS0 ?rs111
      case hy111 =>
        simp only [List.getElem?_toArray, List.getElem?_cons_succ, List.getElem?_cons_zero, Option.some.injEq] at hoi
        subst hoi
        refine ⟨rfl, Or.inl ⟨by rfl, ?_⟩⟩
        intro w hSw
        try dsimp only at hSw
        go_simp
        try with_reducible rfl
      clear hcl
      intro hcl
      try simp only [Act.put, List.setIfInBounds_toArray, List.set_cons_zero, List.set_cons_succ]
      refine wpAnyT_take (i := 11) (v := ?_) (some 132) (by kernel_rfl) (by kernel_rfl) (by kernel_rfl) (by kernel_rfl) hN (by decide) hcl (fun _ _ _ h => h) (fun oi hoi => ?hy112) hS0 ?rs112
      case hy112 =>
        simp only [List.getElem?_toArray, List.getElem?_cons_succ, List.getElem?_cons_zero, Option.some.injEq] at hoi
        subst hoi
        refine ⟨rfl, Or.inl ⟨by rfl, ?_⟩⟩
        intro w hSw
        try dsimp only at hSw
        go_simp
        try with_reducible rfl
      clear hcl
      intro hcl
      try simp only [Act.put, List.setIfInBounds_toArray, List.set_cons_zero, List.set_cons_succ]
      refine wpAnyT_take (i := 12) (v := ?_) (some 133) (by kernel_rfl) (by kernel_rfl) (by kernel_rfl) (by kernel_rfl) hN (by decide) hcl (fun _ _ _ h => h) (fun oi hoi => ?hy113) hS0 ?rs113
      case hy113 =>
        simp only [List.getElem?_toArray, List.getElem?_cons_succ, List.getElem?_cons_zero, Option.some.injEq] at hoi
        subst hoi
        refine ⟨rfl, Or.inl ⟨by rfl, ?_⟩⟩
        intro w hSw
        try dsimp only at hSw
        go_simp
        try with_reducible rfl
      clear hcl
      intro hcl
      try simp only [Act.put, List.setIfInBounds_toArray, List.set_cons_zero, List.set_cons_succ]
      refine wpAnyT_one (i := 13) (by kernel_rfl) (by kernel_rfl) hcl (fun oi hoi K' hK' => ?_)
      clear hcl
      simp only [List.getElem?_toArray, List.getElem?_cons_succ, List.getElem?_cons_zero, Option.some.injEq] at hoi
      subst hoi
      go_simp
      have hOw : OwnsI wr.drew W.heap.size (some ⟨g2, 0, none⟩) o.c o.L := by
        have h' := (unhide HX).oa o (List.mem_of_getElem? hoX)
        rw [unhide HG2] at h'
        exact h'
      refine Calls.mono (without_any hOw hj (by omega)) ?_
      clear hOw
      rintro e w1 ⟨A', c', rfl, hown, hO1⟩
      have hO1' : Only [] wr w1 := hO1.undrew2
      have y1 : w1.cell? ⟨xb, 1, none⟩ = some (.slice (some ⟨g, 0, none⟩) nO x.oc) := (hO1'.cell (p := ⟨xb, 1, none⟩) hxlt (by simp)).trans c1
      have yg : w1.cell? ⟨g, i, none⟩ = some (.slice (some ⟨g2, 0, none⟩) o.L.length o.c) := (hO1'.cell (p := ⟨g, i, none⟩) hgl (by simp)).trans hgc
      have yz : w1.frozen? ⟨g, i, none⟩ = false := (hO1'.frozen (p := ⟨g, i, none⟩) hgl (by simp)).trans hgz
      have hgl1 : g < w1.heap.size := Nat.lt_of_lt_of_le hgl hO1'.size
      have HF := hide ((unhide HX).openAt (A' := A') (c' := c') (L' := o.L.eraseIdx j) hoX hov (hown.weaken (Nat.le_trans (unhide HX).bl.size (by simp))) (hO1'.mono (by simp)) (fun b hb => .inr (by
        have := owned_ge hown b (by simpa using hb)
        simpa using this)))
      have hS1 := And.intro y1 yg
      clear hown hO1 hO1' hS0 c1 hgc hgz
      refine (unhide hK') _ _ (.inr hS1) (fun hcl => ?_)
      clear hK' K'
      try simp only [Act.put, List.setIfInBounds_toArray, List.set_cons_zero, List.set_cons_succ]
      refine wpAnyT_take (i := 14) (v := ?_) (some 135) (by kernel_rfl) (by kernel_rfl) (by kernel_rfl) (by kernel_rfl) hN (by decide) hcl (fun _ _ _ h => h) (fun oi hoi => ?hy201) hS1 ?rs201
      case hy201 =>
        simp only [List.getElem?_toArray, List.getElem?_cons_succ, List.getElem?_cons_zero, Option.some.injEq] at hoi
        subst hoi
        refine ⟨rfl, Or.inl ⟨by rfl, ?_⟩⟩
        intro w hSw
        try dsimp only at hSw
        go_simp
        try with_reducible rfl
      clear hcl
      intro hcl
      try simp only [Act.put, List.setIfInBounds_toArray, List.set_cons_zero, List.set_cons_succ]
      refine wpAnyT_one (i := 15) (by kernel_rfl) (by kernel_rfl) hcl (fun oi hoi K' hK' => ?_)
      clear hcl
      simp only [List.getElem?_toArray, List.getElem?_cons_succ, List.getElem?_cons_zero, Option.some.injEq] at hoi
      subst hoi
      go_simp
      refine (unhide hK') _ _ (.inl rfl) (fun hcl => ?_)
      refine wpAnyT_done (by kernel_rfl) ?_ _
      clear hK' K' hcl hN
      go_wp2_with fail
      first | go_end0 | refine bodyPost_ret (results_none rfl _ _ _) rfl ?_
      refine ⟨rfl, nn', lv', lc', A', c', j, t, unhide HTJ, by omega, ?_⟩
      rw [unhide HQE]
      exact unhide HF
end
end Go.Proofs.Ytdommbaljchofaa
