/-
  A new machine.
-/
import Derived.Test.YtipllcepoijbiaaDoorK
import Derived.Laws.CopyOwn
namespace Go.Proofs.YtipllcepoijbiaaDoor
open Go.RowKit Go.Deep
set_option linter.unusedVariables false
set_option linter.unusedSimpArgs false
/-- A state's four numbers, as those of a machine. -/
def csOf (s : Nat → Int) : Nat → Int := fun j => if j < 4 then s j else 0
theorem lt19 {i : Nat} (h : i < 19) : i = 0 ∨ i = 1 ∨ i = 2 ∨ i = 3 ∨ i = 4 ∨ i = 5 ∨ i = 6 ∨ i = 7 ∨ i = 8 ∨ i = 9 ∨ i = 10 ∨ i = 11 ∨ i = 12 ∨ i = 13 ∨ i = 14 ∨ i = 15 ∨ i = 16 ∨ i = 17 ∨ i = 18 := by omega
theorem row19 (w : World) (e : Nat → Int) (pv : Value) (fan : Int) :
    MAt (w.alloc (.cells #[.int .i64 (e 0), .int .i64 (e 1), .int .i64 (e 2), .int .i64 (e 3), .int .i64 (e 4), .int .i64 (e 5), .int .i64 (e 6), pv, .int .i64 fan, .int .i64 0, .int .i64 0, .int .i64 0, .int .i64 0, .int .i64 0, .int .i64 0, .int .i64 0, .int .i64 0, .int .i64 0, .slice none 0 0] 49)) w.heap.size e pv fan (fun _ => 0) 0 (.slice none 0 0) :=
  World.rowIs_alloc w _ 49 (mrow e pv fan (fun _ => 0) 0 (.slice none 0 0)) fun i hi => by
    rcases lt19 (show i < 19 from hi) with rfl | rfl | rfl | rfl | rfl | rfl | rfl | rfl | rfl | rfl | rfl | rfl | rfl | rfl | rfl | rfl | rfl | rfl | rfl <;> rfl
theorem copy_row {Pr : Program} {w : World} {g t n : Nat} {f : Nat → Value} (h : w.rowIs g t n f) (dT sT ty elem : TypeId) (hu : Pr.underlying dT = some (.slice elem)) (hsz : (Pr.info? elem).map (·.size) = some 1)
    (off dLen dCap : Nat) (ad : Addr) (sLen sCap : Nat) (cs : List Value) (hn : cs.length = Nat.min sLen dLen) (hsrc : ∀ j v, cs[j]? = some v → w.cell? (ad.add j) = some v) (hfit : off + cs.length ≤ n) (h1 : ∀ v ∈ cs, v.oneCell' = true) :
    ∃ w', (Builtin.copy_ #[dT, sT] ty #[.slice (some ⟨g, off, none⟩) dLen dCap, .slice (some ad) sLen sCap]).run Pr w = .ok (goInt cs.length) w' ∧ Only [g] w w' ∧ w'.rowIs g t n (fun i => if off ≤ i ∧ i < off + cs.length then cs.getD (i - off) undef else f i) := by
  obtain ⟨cur, hg, hs, hc⟩ := h
  refine ⟨_, run_copy_row (P := Pr) w dT sT ty elem g off dLen dCap ad sLen sCap cur t cs hu hsz hg hn hsrc (by omega) h1, ⟨rfl, rfl, rfl, by simp [World.setRow], fun k hk hne => setRow_other w g k _ (by simpa using hne)⟩, ?_⟩
  refine ⟨_, setRow_heap w g _ _ t _ hg, ?_, fun i hi => ?_⟩
  · simp
    omega
  · rw [List.append_assoc]
    simp only [List.getElem?_toArray]
    by_cases h1 : i < off
    · rw [List.getElem?_append_left (by simp; omega), if_neg (by omega), List.getElem?_take, if_pos h1]
      simpa using hc i hi
    · have ht : (cur.toList.take off).length = off := by simp; omega
      rw [List.getElem?_append_right (by omega), ht]
      by_cases h2 : i < off + cs.length
      · rw [List.getElem?_append_left (by omega), if_pos ⟨by omega, h2⟩]
        simp [List.getD, show i - off < cs.length by omega]
      · rw [List.getElem?_append_right (by omega), if_neg (by omega), List.getElem?_drop]
        have : off + cs.length + (i - off - cs.length) = i := by omega
        rw [this]
        simpa using hc i hi
set_option maxRecDepth 100000 in
set_option maxHeartbeats 8000000 in
theorem new_nil {w : World} {s e : Nat → Int} {fan : Int} {p : List I} (hT : TabAt w) (hp : p = []) :
    Calls Tryd.prog 11 #[.slice none 0 0, .agg #[.int .i64 (s 0), .int .i64 (s 1), .int .i64 (s 2), .int .i64 (s 3)], .agg #[.int .i64 (e 0), .int .i64 (e 1), .int .i64 (e 2), .int .i64 (e 3), .int .i64 (e 4), .int .i64 (e 5), .int .i64 (e 6)], .int .i64 fan] w fun r w' => r = .returned (.pointer (some ⟨w.heap.size + 1 + 1, 0, none⟩)) ∧ SAt w' (w.heap.size + 1 + 1) e none 0 p fan ⟨csOf s, 0, []⟩ (.slice none 0 0) ∧ Only [] w w' := by
  have hpn : p.length = 0 := by rw [hp]; rfl
  have hP : PAt w none p := by rw [hp]; intro j x hj; simp at hj
  have HT := hide hT
  have HP := hide hP
  have HPN := hide hpn
  obtain ⟨s0, hs0⟩ : ∃ x, s 0 = x := ⟨_, rfl⟩
  obtain ⟨s1, hs1⟩ : ∃ x, s 1 = x := ⟨_, rfl⟩
  obtain ⟨s2, hs2⟩ : ∃ x, s 2 = x := ⟨_, rfl⟩
  obtain ⟨s3, hs3⟩ : ∃ x, s 3 = x := ⟨_, rfl⟩
  have HSS := hide (And.intro hs0 (And.intro hs1 (And.intro hs2 hs3)))
  rw [hs0, hs1, hs2, hs3]
  have HR := fun u => row19 u e (.slice none 0 0) fan
  obtain ⟨e0, he0⟩ : ∃ x, e 0 = x := ⟨_, rfl⟩
  obtain ⟨e1, he1⟩ : ∃ x, e 1 = x := ⟨_, rfl⟩
  obtain ⟨e2, he2⟩ : ∃ x, e 2 = x := ⟨_, rfl⟩
  obtain ⟨e3, he3⟩ : ∃ x, e 3 = x := ⟨_, rfl⟩
  obtain ⟨e4, he4⟩ : ∃ x, e 4 = x := ⟨_, rfl⟩
  obtain ⟨e5, he5⟩ : ∃ x, e 5 = x := ⟨_, rfl⟩
  obtain ⟨e6, he6⟩ : ∃ x, e 6 = x := ⟨_, rfl⟩
  rw [he0, he1, he2, he3, he4, he5, he6]
  simp only [he0, he1, he2, he3, he4, he5, he6] at HR
  have HEE := hide (And.intro he0 (And.intro he1 (And.intro he2 (And.intro he3 (And.intro he4 (And.intro he5 he6))))))
  have HRR := hide HR
  clear HR hs0 hs1 hs2 hs3 he0 he1 he2 he3 he4 he5 he6 hT hP hpn
  go_enter Tryd.func11, Tryd.ntmps11
  go_wp2_with fail
  go_region
  obtain ⟨W3, hW3⟩ : ∃ W, (w.alloc (Obj.cells #[Value.int IntKind.i64 s0, Value.int IntKind.i64 s1, Value.int IntKind.i64 s2, Value.int IntKind.i64 s3] 24)) = W := ⟨_, rfl⟩
  have hs3 : W3.heap.size = w.heap.size + 1 := by rw [← hW3]; simp
  have hO3 : Only [] w W3 := by rw [← hW3]; exact (Only.refl [] w).alloc _
  have hcl3 : ∀ (q : Nat) (v : Value), (#[Value.int IntKind.i64 s0, Value.int IntKind.i64 s1, Value.int IntKind.i64 s2, Value.int IntKind.i64 s3] : Array Value)[q]? = some v → W3.cell? ⟨w.heap.size, q, none⟩ = some v := by
    intro q v hq
    rw [← hW3]
    exact (cell_of_row (w.alloc (Obj.cells #[Value.int IntKind.i64 s0, Value.int IntKind.i64 s1, Value.int IntKind.i64 s2, Value.int IntKind.i64 s3] 24)) w.heap.size q _ 24 (0, 0) (heap_alloc_last w _)).trans hq
  rw [hW3]
  obtain ⟨W4, hW4⟩ : ∃ W, (W3.alloc (Obj.cells #[Value.int IntKind.i64 e0, Value.int IntKind.i64 e1, Value.int IntKind.i64 e2, Value.int IntKind.i64 e3, Value.int IntKind.i64 e4, Value.int IntKind.i64 e5, Value.int IntKind.i64 e6] 28)) = W := ⟨_, rfl⟩
  have hs4 : W4.heap.size = w.heap.size + 1 + 1 := by rw [← hW4, ← hs3]; simp
  have hO4 : Only [] W3 W4 := by rw [← hW4]; exact (Only.refl [] W3).alloc _
  rw [hW4]
  obtain ⟨W5, hW5⟩ : ∃ W, (W4.alloc (Obj.cells #[Value.int IntKind.i64 e0, Value.int IntKind.i64 e1, Value.int IntKind.i64 e2, Value.int IntKind.i64 e3, Value.int IntKind.i64 e4, Value.int IntKind.i64 e5, Value.int IntKind.i64 e6, Value.slice none 0 0, Value.int IntKind.i64 fan, Value.int IntKind.i64 0, Value.int IntKind.i64 0, Value.int IntKind.i64 0, Value.int IntKind.i64 0, Value.int IntKind.i64 0, Value.int IntKind.i64 0, Value.int IntKind.i64 0, Value.int IntKind.i64 0, Value.int IntKind.i64 0, Value.slice none 0 0] 49)).drew = W := ⟨_, rfl⟩
  have hO5 : Only [] W4 W5 := by rw [← hW5]; exact ((Only.refl [] W4).alloc _).drew
  have hM5 : MAt W5 (w.heap.size + 1 + 1) e (.slice none 0 0) fan (fun _ => 0) 0 (.slice none 0 0) := by rw [← hW5, ← hs4]; exact unhide HRR W4
  rw [hW5]
  have hO05 : Only [] w W5 := (hO3.trans hO4).trans hO5
  have tb0 := (hO5.cell (p := ⟨w.heap.size, 0, none⟩) (by simp; omega) (by simp)).trans ((hO4.cell (p := ⟨w.heap.size, 0, none⟩) (by simp; omega) (by simp)).trans (hcl3 0 _ rfl))
  have tb1 := (hO5.cell (p := ⟨w.heap.size, 1, none⟩) (by simp; omega) (by simp)).trans ((hO4.cell (p := ⟨w.heap.size, 1, none⟩) (by simp; omega) (by simp)).trans (hcl3 1 _ rfl))
  have tb2 := (hO5.cell (p := ⟨w.heap.size, 2, none⟩) (by simp; omega) (by simp)).trans ((hO4.cell (p := ⟨w.heap.size, 2, none⟩) (by simp; omega) (by simp)).trans (hcl3 2 _ rfl))
  have tb3 := (hO5.cell (p := ⟨w.heap.size, 3, none⟩) (by simp; omega) (by simp)).trans ((hO4.cell (p := ⟨w.heap.size, 3, none⟩) (by simp; omega) (by simp)).trans (hcl3 3 _ rfl))
  have HS5 : Hid (SAt W5 (w.heap.size + 1 + 1) e none 0 p fan ⟨fun _ => 0, 0, []⟩ (.slice none 0 0)) := by
    refine ⟨?_, (unhide HP).only hO05 (fun _ _ => by simp), ?_, World.ownsRow_nil _ _ _ _, (unhide HT).only hO05 (by simp), by omega⟩
    · simp only [unhide HPN]; exact hM5
    · intro a ha; cases ha
  have HO5 := hide hO05
  clear hcl3 hW3 hW4 hW5 hO3 hO4 hO5 hM5 hs3 hs4 hO05
  obtain ⟨W6, hrun, hO6, hrow6⟩ := copy_row (Pr := Tryd.prog) ((unhide HS5).m.drew) 47 47 3 3 (by kernel_rfl) (by kernel_rfl) 9 8 8 ⟨w.heap.size, 0, none⟩ 4 4 [.int .i64 s0, .int .i64 s1, .int .i64 s2, .int .i64 s3] (by rfl) (by
    intro j v hj
    rcases (show j = 0 ∨ j = 1 ∨ j = 2 ∨ j = 3 ∨ 4 ≤ j by omega) with rfl | rfl | rfl | rfl | h4
    · injection hj with hj; subst hj; exact tb0
    · injection hj with hj; subst hj; exact tb1
    · injection hj with hj; subst hj; exact tb2
    · injection hj with hj; subst hj; exact tb3
    · rw [List.getElem?_eq_none (by simpa using h4)] at hj; cases hj) (by simp) (by
    intro v hv
    simp only [List.mem_cons, List.not_mem_nil, or_false] at hv
    rcases hv with rfl | rfl | rfl | rfl <;> rfl)
  have hrun' : (Builtin.copy_ #[47, 47] 3 #[.slice (some ⟨w.heap.size + 1 + 1, 9, none⟩) 8 8, .slice (some ⟨w.heap.size, 0, none⟩) 4 4]).run Tryd.prog W5.drew = .ok (.int .i64 4) W6 := hrun
  have hlm := (unhide HS5).lt
  have hM6 : MAt W6 (w.heap.size + 1 + 1) e (.slice none 0 0) fan (csOf s) 0 (.slice none 0 0) := hrow6.congr fun i hi => by
    rcases lt19 hi with rfl | rfl | rfl | rfl | rfl | rfl | rfl | rfl | rfl | rfl | rfl | rfl | rfl | rfl | rfl | rfl | rfl | rfl | rfl <;> first | rfl | (show Value.int .i64 _ = Value.int .i64 _; simp [csOf, (unhide HSS).1, (unhide HSS).2.1, (unhide HSS).2.2.1, (unhide HSS).2.2.2]) | (simp [mrow, (unhide HPN)])
  have HM6 := hide hM6
  have HO6 := hide hO6
  clear hrun hrow6 hM6 hO6 tb0 tb1 tb2 tb3
  have HBB : Hid (∀ w : World, w.heap.size + 1 + 1 = w.heap.size + 1 + 1) := fun _ => rfl
  have hmb : w.heap.size < w.heap.size + 1 + 1 := by omega
  generalize hmbe : w.heap.size + 1 + 1 = mb at *
  have HMB := hide hmbe
  clear hmbe
  go_wp2_with fail
  go_region
  go_wp2_with fail
  go_ret
  have hf : SAt W6 mb e none 0 p fan ⟨csOf s, 0, []⟩ (.slice none 0 0) := ((unhide HS5).only0 ((Only.refl [] W5).drew)).turned (unhide HO6) rfl (by show MAt W6 mb e (.slice none p.length 0) fan (csOf s) 0 (.slice none 0 0); rw [unhide HPN]; exact unhide HM6)
  have hmbe := unhide HMB
  subst hmbe
  refine ⟨rfl, hf, ?_⟩
  have k1 := unhide HO5
  have k2 := unhide HO6
  exact ⟨k2.os.trans k1.os, k2.tape.trans k1.tape, k2.output.trans k1.output, Nat.le_trans k1.size k2.size, fun i hi hn => (k2.block i (Nat.lt_of_lt_of_le hi k1.size) (by simp; omega)).trans (k1.block i hi hn)⟩
set_option maxRecDepth 100000 in
set_option maxHeartbeats 8000000 in
theorem new_some {w : World} {ad : Addr} {n cap : Nat} {s e : Nat → Int} {fan : Int} {p : List I} (hT : TabAt w) (hb : ad.block < w.heap.size) (hpn : p.length = n) (hn : n ≤ 64) (hc : n ≤ cap) (hP : PAt w (some ad) p) :
    Calls Tryd.prog 11 #[.slice (some ad) n cap, .agg #[.int .i64 (s 0), .int .i64 (s 1), .int .i64 (s 2), .int .i64 (s 3)], .agg #[.int .i64 (e 0), .int .i64 (e 1), .int .i64 (e 2), .int .i64 (e 3), .int .i64 (e 4), .int .i64 (e 5), .int .i64 (e 6)], .int .i64 fan] w fun r w' => r = .returned (.pointer (some ⟨w.heap.size + 1 + 1, 0, none⟩)) ∧ SAt w' (w.heap.size + 1 + 1) e (some ad) cap p fan ⟨csOf s, 0, []⟩ (.slice none 0 0) ∧ Only [] w w' := by
  have HT := hide hT
  have HP := hide hP
  have HPN := hide hpn
  obtain ⟨s0, hs0⟩ : ∃ x, s 0 = x := ⟨_, rfl⟩
  obtain ⟨s1, hs1⟩ : ∃ x, s 1 = x := ⟨_, rfl⟩
  obtain ⟨s2, hs2⟩ : ∃ x, s 2 = x := ⟨_, rfl⟩
  obtain ⟨s3, hs3⟩ : ∃ x, s 3 = x := ⟨_, rfl⟩
  have HSS := hide (And.intro hs0 (And.intro hs1 (And.intro hs2 hs3)))
  rw [hs0, hs1, hs2, hs3]
  have HR := fun u => row19 u e (.slice (some ad) n cap) fan
  obtain ⟨e0, he0⟩ : ∃ x, e 0 = x := ⟨_, rfl⟩
  obtain ⟨e1, he1⟩ : ∃ x, e 1 = x := ⟨_, rfl⟩
  obtain ⟨e2, he2⟩ : ∃ x, e 2 = x := ⟨_, rfl⟩
  obtain ⟨e3, he3⟩ : ∃ x, e 3 = x := ⟨_, rfl⟩
  obtain ⟨e4, he4⟩ : ∃ x, e 4 = x := ⟨_, rfl⟩
  obtain ⟨e5, he5⟩ : ∃ x, e 5 = x := ⟨_, rfl⟩
  obtain ⟨e6, he6⟩ : ∃ x, e 6 = x := ⟨_, rfl⟩
  rw [he0, he1, he2, he3, he4, he5, he6]
  simp only [he0, he1, he2, he3, he4, he5, he6] at HR
  have HEE := hide (And.intro he0 (And.intro he1 (And.intro he2 (And.intro he3 (And.intro he4 (And.intro he5 he6))))))
  have HB := hide hb
  have d1 : decide ((n : Int) ≤ 64) = true := by simp; omega
  have d2 : decide (n ≤ cap) = true := by simp; omega
  have d3 : decide ((n : Int) ≤ (cap : Int)) = true := by simp; omega
  have d4 : min (n : Int) 64 = (n : Int) := by omega
  clear hb
  have HRR := hide HR
  clear HR hs0 hs1 hs2 hs3 he0 he1 he2 he3 he4 he5 he6 hT hP hpn
  go_enter Tryd.func11, Tryd.ntmps11
  go_wp2_with fail
  go_region
  obtain ⟨W3, hW3⟩ : ∃ W, (w.alloc (Obj.cells #[Value.int IntKind.i64 s0, Value.int IntKind.i64 s1, Value.int IntKind.i64 s2, Value.int IntKind.i64 s3] 24)) = W := ⟨_, rfl⟩
  have hs3 : W3.heap.size = w.heap.size + 1 := by rw [← hW3]; simp
  have hO3 : Only [] w W3 := by rw [← hW3]; exact (Only.refl [] w).alloc _
  have hcl3 : ∀ (q : Nat) (v : Value), (#[Value.int IntKind.i64 s0, Value.int IntKind.i64 s1, Value.int IntKind.i64 s2, Value.int IntKind.i64 s3] : Array Value)[q]? = some v → W3.cell? ⟨w.heap.size, q, none⟩ = some v := by
    intro q v hq
    rw [← hW3]
    exact (cell_of_row (w.alloc (Obj.cells #[Value.int IntKind.i64 s0, Value.int IntKind.i64 s1, Value.int IntKind.i64 s2, Value.int IntKind.i64 s3] 24)) w.heap.size q _ 24 (0, 0) (heap_alloc_last w _)).trans hq
  rw [hW3]
  obtain ⟨W4, hW4⟩ : ∃ W, (W3.alloc (Obj.cells #[Value.int IntKind.i64 e0, Value.int IntKind.i64 e1, Value.int IntKind.i64 e2, Value.int IntKind.i64 e3, Value.int IntKind.i64 e4, Value.int IntKind.i64 e5, Value.int IntKind.i64 e6] 28)) = W := ⟨_, rfl⟩
  have hs4 : W4.heap.size = w.heap.size + 1 + 1 := by rw [← hW4, ← hs3]; simp
  have hO4 : Only [] W3 W4 := by rw [← hW4]; exact (Only.refl [] W3).alloc _
  rw [hW4]
  obtain ⟨W5, hW5⟩ : ∃ W, (W4.alloc (Obj.cells #[Value.int IntKind.i64 e0, Value.int IntKind.i64 e1, Value.int IntKind.i64 e2, Value.int IntKind.i64 e3, Value.int IntKind.i64 e4, Value.int IntKind.i64 e5, Value.int IntKind.i64 e6, Value.slice (some ad) n cap, Value.int IntKind.i64 fan, Value.int IntKind.i64 0, Value.int IntKind.i64 0, Value.int IntKind.i64 0, Value.int IntKind.i64 0, Value.int IntKind.i64 0, Value.int IntKind.i64 0, Value.int IntKind.i64 0, Value.int IntKind.i64 0, Value.int IntKind.i64 0, Value.slice none 0 0] 49)).drew = W := ⟨_, rfl⟩
  have hO5 : Only [] W4 W5 := by rw [← hW5]; exact ((Only.refl [] W4).alloc _).drew
  have hM5 : MAt W5 (w.heap.size + 1 + 1) e (.slice (some ad) n cap) fan (fun _ => 0) 0 (.slice none 0 0) := by rw [← hW5, ← hs4]; exact unhide HRR W4
  rw [hW5]
  have hO05 : Only [] w W5 := (hO3.trans hO4).trans hO5
  have tb0 := (hO5.cell (p := ⟨w.heap.size, 0, none⟩) (by simp; omega) (by simp)).trans ((hO4.cell (p := ⟨w.heap.size, 0, none⟩) (by simp; omega) (by simp)).trans (hcl3 0 _ rfl))
  have tb1 := (hO5.cell (p := ⟨w.heap.size, 1, none⟩) (by simp; omega) (by simp)).trans ((hO4.cell (p := ⟨w.heap.size, 1, none⟩) (by simp; omega) (by simp)).trans (hcl3 1 _ rfl))
  have tb2 := (hO5.cell (p := ⟨w.heap.size, 2, none⟩) (by simp; omega) (by simp)).trans ((hO4.cell (p := ⟨w.heap.size, 2, none⟩) (by simp; omega) (by simp)).trans (hcl3 2 _ rfl))
  have tb3 := (hO5.cell (p := ⟨w.heap.size, 3, none⟩) (by simp; omega) (by simp)).trans ((hO4.cell (p := ⟨w.heap.size, 3, none⟩) (by simp; omega) (by simp)).trans (hcl3 3 _ rfl))
  have HS5 : Hid (SAt W5 (w.heap.size + 1 + 1) e (some ad) cap p fan ⟨fun _ => 0, 0, []⟩ (.slice none 0 0)) := by
    refine ⟨?_, (unhide HP).only hO05 (fun _ _ => by simp), ?_, World.ownsRow_nil _ _ _ _, (unhide HT).only hO05 (by simp), by omega⟩
    · simp only [unhide HPN]; exact hM5
    · intro a ha; injection ha with ha; subst ha; have := unhide HB; omega
  have HO5 := hide hO05
  clear hcl3 hW3 hW4 hW5 hO3 hO4 hO5 hM5 hs3 hs4 hO05
  obtain ⟨W6, hrun, hO6, hrow6⟩ := copy_row (Pr := Tryd.prog) ((unhide HS5).m.drew) 47 47 3 3 (by kernel_rfl) (by kernel_rfl) 9 8 8 ⟨w.heap.size, 0, none⟩ 4 4 [.int .i64 s0, .int .i64 s1, .int .i64 s2, .int .i64 s3] (by rfl) (by
    intro j v hj
    rcases (show j = 0 ∨ j = 1 ∨ j = 2 ∨ j = 3 ∨ 4 ≤ j by omega) with rfl | rfl | rfl | rfl | h4
    · injection hj with hj; subst hj; exact tb0
    · injection hj with hj; subst hj; exact tb1
    · injection hj with hj; subst hj; exact tb2
    · injection hj with hj; subst hj; exact tb3
    · rw [List.getElem?_eq_none (by simpa using h4)] at hj; cases hj) (by simp) (by
    intro v hv
    simp only [List.mem_cons, List.not_mem_nil, or_false] at hv
    rcases hv with rfl | rfl | rfl | rfl <;> rfl)
  have hrun' : (Builtin.copy_ #[47, 47] 3 #[.slice (some ⟨w.heap.size + 1 + 1, 9, none⟩) 8 8, .slice (some ⟨w.heap.size, 0, none⟩) 4 4]).run Tryd.prog W5.drew = .ok (.int .i64 4) W6 := hrun
  have hlm := (unhide HS5).lt
  have hM6 : MAt W6 (w.heap.size + 1 + 1) e (.slice (some ad) n cap) fan (csOf s) 0 (.slice none 0 0) := hrow6.congr fun i hi => by
    rcases lt19 hi with rfl | rfl | rfl | rfl | rfl | rfl | rfl | rfl | rfl | rfl | rfl | rfl | rfl | rfl | rfl | rfl | rfl | rfl | rfl <;> first | rfl | (show Value.int .i64 _ = Value.int .i64 _; simp [csOf, (unhide HSS).1, (unhide HSS).2.1, (unhide HSS).2.2.1, (unhide HSS).2.2.2]) | (simp [mrow, (unhide HPN)])
  have HM6 := hide hM6
  have HO6 := hide hO6
  clear hrun hrow6 hM6 hO6 tb0 tb1 tb2 tb3
  have HBB : Hid (∀ w : World, w.heap.size + 1 + 1 = w.heap.size + 1 + 1) := fun _ => rfl
  have hmb : w.heap.size < w.heap.size + 1 + 1 := by omega
  generalize hmbe : w.heap.size + 1 + 1 = mb at *
  have HMB := hide hmbe
  clear hmbe
  go_wp2_with fail
  go_region
  go_wp2_with fail
  go_ret
  have hf : SAt W6 mb e (some ad) cap p fan ⟨csOf s, 0, []⟩ (.slice none 0 0) := ((unhide HS5).only0 ((Only.refl [] W5).drew)).turned (unhide HO6) rfl (by show MAt W6 mb e (.slice (some ad) p.length cap) fan (csOf s) 0 (.slice none 0 0); rw [unhide HPN]; exact unhide HM6)
  have hmbe := unhide HMB
  subst hmbe
  refine ⟨rfl, hf, ?_⟩
  have k1 := unhide HO5
  have k2 := unhide HO6
  exact ⟨k2.os.trans k1.os, k2.tape.trans k1.tape, k2.output.trans k1.output, Nat.le_trans k1.size k2.size, fun i hi hn => (k2.block i (Nat.lt_of_lt_of_le hi k1.size) (by simp; omega)).trans (k1.block i hi hn)⟩
end Go.Proofs.YtipllcepoijbiaaDoor
