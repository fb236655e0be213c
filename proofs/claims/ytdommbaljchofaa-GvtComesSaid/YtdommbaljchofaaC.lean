/-
  The contracts of a worker's methods.
-/
import Derived.Test.YtdommbaljchofaaRows
import Derived.Test.YtdommbaljchofaaM
import Derived.Outline
import Derived.Handy
import Derived.WalkLawsBesides
import Derived.WalkSpells
namespace Go.Proofs.Ytdommbaljchofaa
open Go.RowKit Go.Deep Go.Maps
set_option linter.unusedVariables false

def wkF (rd lo : Int) (mb : Nat) (o : Nat) : Value := if o = 0 then .int .i64 rd else if o = 1 then .map (some mb) else .int .i64 lo
/-- A worker in memory: round rd, low lo, the open messages M. -/
structure WAt (w : World) (wb mb n : Nat) (rd lo : Int) (M : List (Int × Int)) : Prop where
  hd : w.rowIs wb 70 3 (wkF rd lo mb)
  mp : ∃ D, w.ownsMap Try.prog 3 (plainElem Try.prog 3) mb n D ∧ Reads D M
namespace WAt
variable {w w' : World} {wb mb n : Nat} {rd lo : Int} {M : List (Int × Int)}
theorem only {s : List Nat} (h : WAt w wb mb n rd lo M) (k : Only s w w') (h1 : wb ∉ s) (h2 : mb ∉ s) : WAt w' wb mb n rd lo M := by
  obtain ⟨D, hD, hR⟩ := h.mp
  exact ⟨k.row h.hd h1, D, k.map hD h2, hR⟩
theorem only0 (h : WAt w wb mb n rd lo M) (k : Only [] w w') : WAt w' wb mb n rd lo M := h.only k (by simp) (by simp)
theorem c0 (h : WAt w wb mb n rd lo M) : w.cell? ⟨wb, 0, none⟩ = some (.int .i64 rd) := h.hd.cell (by omega)
theorem c1 (h : WAt w wb mb n rd lo M) : w.cell? ⟨wb, 1, none⟩ = some (.map (some mb)) := h.hd.cell (by omega)
theorem c2 (h : WAt w wb mb n rd lo M) : w.cell? ⟨wb, 2, none⟩ = some (.int .i64 lo) := h.hd.cell (by omega)
theorem z (h : WAt w wb mb n rd lo M) (o : Nat) : w.frozen? ⟨wb, o, none⟩ = false := h.hd.frozen o
theorem ne (h : WAt w wb mb n rd lo M) : mb ≠ wb := by
  obtain ⟨D, hD, _⟩ := h.mp
  exact map_row_ne hD h.hd
theorem lt (h : WAt w wb mb n rd lo M) : wb < w.heap.size := h.hd.lt
theorem lt2 (h : WAt w wb mb n rd lo M) : mb < w.heap.size := by
  obtain ⟨D, hD, _⟩ := h.mp
  exact hD.lt
theorem more (h : WAt w wb mb n rd lo M) {n' : Nat} (hn : n ≤ n') : WAt w wb mb n' rd lo M := by
  obtain ⟨D, hD, hR⟩ := h.mp
  exact ⟨h.hd, D, hD.mono hn, hR⟩
end WAt

theorem law3 : Keyed Try.prog 3 := int_keyed Try.underlying3
theorem zero3 (w : World) : (zeroValue 3).run Try.prog w = .ok (.int .i64 0) w := by kernel_rfl

/-- Is a number a time? -/
def IsTime (at_ : Int) : Prop := 0 ≤ at_ ∧ at_ ≤ 1073741825
instance (at_ : Int) : Decidable (IsTime at_) := inferInstanceAs (Decidable (_ ∧ _))

theorem time_any {at_ : Int} (w : World) : Calls Try.prog 40 #[.int .i64 at_] w fun e w' => e = .returned (.bool (decide (IsTime at_))) ∧ w = w' := by
  by_cases h0 : 0 ≤ at_
  · by_cases h1 : at_ ≤ 1073741825
    · have e : decide (IsTime at_) = true := by simpa using show IsTime at_ from ⟨h0, h1⟩
      rw [e]
      go_enter Try.func40, Try.ntmps40
      go_wp2_with fail
      go_ret
      exact ⟨rfl, rfl⟩
    · have e : decide (IsTime at_) = false := decide_eq_false (fun h => by have := h.1; have := h.2; omega)
      rw [e]
      have h1' : 1073741825 < at_ := by omega
      go_enter Try.func40, Try.ntmps40
      go_wp2_with fail
      go_ret
      exact ⟨rfl, rfl⟩
  · have e : decide (IsTime at_) = false := decide_eq_false (fun h => by have := h.1; have := h.2; omega)
    rw [e]
    go_enter Try.func40, Try.ntmps40
    go_wp2_with fail
    go_ret
    exact ⟨rfl, rfl⟩

theorem next_any {w : World} {wb : Nat} {rd : Int} (h : w.cell? ⟨wb, 0, none⟩ = some (.int .i64 rd)) (h0 : 0 ≤ rd) (h1 : rd ≤ 1000000) :
    Calls Try.prog 37 #[.pointer (some ⟨wb, 0, none⟩)] w fun e w' => e = .returned (.int .i64 (rd + 1)) ∧ w = w' := by
  go_enter Try.func37, Try.ntmps37
  go_wp2_with fail
  go_ret
  exact ⟨rfl, rfl⟩

theorem new_any (w : World) : Calls Try.prog 9 #[] w fun e w' => ∃ wb mb, e = .returned (.pointer (some ⟨wb, 0, none⟩)) ∧ WAt w' wb mb 0 0 Never [] ∧ Below w.heap.size w w' ∧ w.heap.size ≤ wb ∧ w.heap.size ≤ mb := by
  have hmm := @run_makeMap Try.prog
  go_enter Try.func9, Try.ntmps9
  go_wp2_with fail
  go_ret
  refine ⟨w.heap.size + 1, w.heap.size, rfl, ⟨?_, .map [], ?_, Reads.empty⟩, ((Below.refl _ _).alloc (Nat.le_refl _) _).alloc (by simp) _, by omega, Nat.le_refl _⟩
  · have h := World.rowIs_alloc (w.alloc (.map #[] 0)) #[.int .i64 0, .map (some w.heap.size), .int .i64 1073741825] 70 (wkF 0 Never w.heap.size) (by
      intro i hi
      simp at hi
      rcases (show i = 0 ∨ i = 1 ∨ i = 2 by omega) with rfl | rfl | rfl <;> rfl)
    simpa using h
  · exact (World.ownsMap_made _ _ _ _).alloc _

def sentCode (M : List (Int × Int)) (no at_ : Int) : Int := if no < 0 then 1 else if IsTime at_ then (if M.any (fun p => p.1 == no) then 13 else 0) else 10
def sentM (M : List (Int × Int)) (no at_ : Int) : List (Int × Int) := if sentCode M no at_ = 0 then M ++ [(no, at_)] else M

set_option maxHeartbeats 1000000 in
theorem sent_any {w : World} {wb mb n : Nat} {rd lo no at_ : Int} {M : List (Int × Int)} (h : WAt w wb mb n rd lo M) (hn : n ≤ 1000000) (hw : (Lit.int .i64 no).wf = true) :
    Calls Try.prog 32 #[.pointer (some ⟨wb, 0, none⟩), .int .i64 no, .int .i64 at_] w fun e w' =>
      e = .returned (.int .i64 (sentCode M no at_)) ∧ WAt w' wb mb (n + 1) rd lo (sentM M no at_) ∧ Only [wb, mb] w w' := by
  have c1 := h.c1
  obtain ⟨D, hown, hR⟩ := h.mp
  have hkey := keyOf_int_mk Try.underlying3 hw
  by_cases h1 : no < 0
  · have e : sentCode M no at_ = 1 := by simp [sentCode, h1]
    have e2 : sentM M no at_ = M := by simp [sentM, e]
    rw [e, e2]
    have H : Hid (WAt w wb mb (n + 1) rd lo M) := h.more (by omega)
    clear e e2 h hown hR
    go_enter Try.func32, Try.ntmps32
    go_wp2_with fail
    go_ret
    exact ⟨rfl, H.out, Only.refl _ _⟩
  by_cases h2 : IsTime at_
  · have ht : decide (IsTime at_) = true := by simpa using h2
    have hwt : (Lit.int .i64 at_).wf = true := WalkArith.wf_i64 (by have := h2.1; have := h2.2; omega)
    by_cases h3 : M.any (fun p => p.1 == no) = true
    · have e : sentCode M no at_ = 13 := by simp only [sentCode]; rw [if_neg h1, if_pos h2, if_pos h3]
      have e2 : sentM M no at_ = M := by simp [sentM, e]
      rw [e, e2]
      have hh : Maps.has D (.int .i64 no) = true := by rw [hR.has]; exact h3
      have H : Hid (WAt w wb mb (n + 1) rd lo M) := h.more (by omega)
      have HT : Hid (decide (IsTime at_) = true) := ht
      clear e e2 h hR h2 ht h3
      go_enter Try.func32, Try.ntmps32
      go_wp2_with fail
      refine (time_any _).mono ?_
      rintro e w' ⟨rfl, rfl⟩
      rw [HT.out]
      go_wp2_with (at_lookup; refine wpList_lookup_own_ok_int _ rfl _ _ 66 rfl 3 3 .i64 law3 Try.underlying66 Try.underlying3 (zero3 _) mb n D rfl hown _ _ rfl hkey ?_; intro c hat hwc)
      go_ret
      exact ⟨rfl, H.out, Only.refl _ _⟩
    · have h3' : M.any (fun p => p.1 == no) = false := eq_false_of_ne_true h3
      have e : sentCode M no at_ = 0 := by simp only [sentCode]; rw [if_neg h1, if_pos h2, if_neg h3]
      have e2 : sentM M no at_ = M ++ [(no, at_)] := by simp [sentM, e]
      rw [e, e2]
      have hh : Maps.has D (.int .i64 no) = false := by rw [hR.has]; exact h3'
      have hne := h.ne
      have H : Hid (WAt w wb mb n rd lo M) := h
      have HT : Hid (decide (IsTime at_) = true) := ht
      have HP : Hid (Reads (D.put (.int .i64 no) (i64 at_)) (M ++ [(no, at_)])) := hR.put h3'
      clear e e2 h hR h2 ht h3 h3'
      go_enter Try.func32, Try.ntmps32
      go_wp2_with fail
      refine (time_any _).mono ?_
      rintro e w' ⟨rfl, rfl⟩
      rw [HT.out]
      go_wp2_with (first | (at_lookup; refine wpList_lookup_own_ok_int _ rfl _ _ 66 rfl 3 3 .i64 law3 Try.underlying66 Try.underlying3 (zero3 _) mb n D rfl hown _ _ rfl hkey ?_; intro c hat hwc) | (at_mapUpdate; refine wpList_mapUpdate_own _ rfl _ _ _ 66 rfl 3 3 law3 Try.underlying66 _ mb n D rfl hown (by unfold maxLen; omega) _ _ _ rfl rfl hkey _ [] (plainElem_int Try.underlying3 hwt) ?_; intro w1 hown1 hgrow1; have HO1 := hide hown1; have HG1 := hide hgrow1; clear hown1 hgrow1))
      go_ret
      refine ⟨rfl, ⟨?_, _, unhide HO1, HP.out⟩, Only.of_grown (unhide HG1) (fun k hk => by injection hk with hk; simp [hk])⟩
      exact H.out.hd.of_block ((unhide HG1).block wb H.out.lt (by intro e; injection e with e; exact hne e.symm))
  · have ht : decide (IsTime at_) = false := by simpa using h2
    have e : sentCode M no at_ = 10 := by simp only [sentCode]; rw [if_neg h1, if_neg h2]
    have e2 : sentM M no at_ = M := by simp [sentM, e]
    rw [e, e2]
    have H : Hid (WAt w wb mb (n + 1) rd lo M) := h.more (by omega)
    have HT : Hid (decide (IsTime at_) = false) := ht
    clear e e2 h hown hR h2 ht
    go_enter Try.func32, Try.ntmps32
    go_wp2_with fail
    refine (time_any _).mono ?_
    rintro e w' ⟨rfl, rfl⟩
    rw [HT.out]
    go_wp2_with fail
    go_ret
    exact ⟨rfl, H.out, Only.refl _ _⟩

theorem got_any {w : World} {wb mb n : Nat} {rd lo : Int} {M : List (Int × Int)} (h : WAt w wb mb n rd lo M) :
    Calls Try.prog 14 #[.pointer (some ⟨wb, 0, none⟩)] w fun e w' => e = .returned (.tuple #[.int .i64 rd, .int .i64 0]) ∧ w = w' := by
  have c0 := h.c0
  clear h
  go_enter Try.func14, Try.ntmps14
  go_wp2_with fail
  go_ret2
  exact ⟨rfl, rfl⟩
theorem round_any {w : World} {wb mb n : Nat} {rd lo : Int} {M : List (Int × Int)} (h : WAt w wb mb n rd lo M) :
    Calls Try.prog 16 #[.pointer (some ⟨wb, 0, none⟩)] w fun e w' => e = .returned (.int .i64 rd) ∧ w = w' := by
  have c0 := h.c0
  clear h
  go_enter Try.func16, Try.ntmps16
  go_wp2_with fail
  go_ret
  exact ⟨rfl, rfl⟩

def valOf (M : List (Int × Int)) (no : Int) : Int := ((M.find? (fun p => p.1 == no)).map (·.2)).getD 0
def ackedCode (M : List (Int × Int)) (rd no mark : Int) : Int := if M.any (fun p => p.1 == no) then (if mark < 0 ∨ rd + 1 < mark then 10 else 0) else 14
def ackedM (M : List (Int × Int)) (rd no mark : Int) : List (Int × Int) := if ackedCode M rd no mark = 0 then M.filter (fun p => p.1 != no) else M
def ackedLo (M : List (Int × Int)) (rd lo no mark : Int) : Int := if ackedCode M rd no mark = 0 ∧ rd < mark then min lo (valOf M no) else lo
theorem valOf_eq {M : List (Int × Int)} (hnd : M.Pairwise (fun a b => a.1 ≠ b.1)) {no c : Int} (h : (no, c) ∈ M) : valOf M no = c := by
  unfold valOf
  cases hf : M.find? (fun p => p.1 == no) with
  | none =>
    have := List.find?_eq_none.1 hf (no, c) h
    simp at this
  | some p =>
    have hp := List.mem_of_find?_eq_some hf
    have he : p.1 = no := by simpa using List.find?_some hf
    have : (no, p.2) ∈ M := by rw [← he]; exact hp
    simpa using uniq hnd this h

theorem WAt.lowered {w w1 : World} {wb mb n : Nat} {rd lo lo' : Int} {M M' : List (Int × Int)} {D : DataW Unit} (h : WAt w wb mb n rd lo M) (hg : w.grownBy w1 (some mb))
    (ho : w1.ownsMap Try.prog 3 (plainElem Try.prog 3) mb n D) (hR : Reads D M') : WAt (w1.setCell ⟨wb, 2, none⟩ (.int .i64 lo')) wb mb n rd lo' M' := by
  refine ⟨((h.hd.of_block (hg.block wb h.lt (by intro e; injection e with e; exact h.ne e.symm))).set 2 _).congr fun o ho' => ?_, D, ho.setCell (a := ⟨wb, 2, none⟩) h.ne _, hR⟩
  simp only [wkF]
  rcases (show o = 0 ∨ o = 1 ∨ o = 2 by omega) with rfl | rfl | rfl <;> rfl
theorem WAt.struck {w w1 : World} {wb mb n : Nat} {rd lo : Int} {M M' : List (Int × Int)} {D : DataW Unit} (h : WAt w wb mb n rd lo M) (hg : w.grownBy w1 (some mb))
    (ho : w1.ownsMap Try.prog 3 (plainElem Try.prog 3) mb n D) (hR : Reads D M') : WAt w1 wb mb n rd lo M' :=
  ⟨h.hd.of_block (hg.block wb h.lt (by intro e; injection e with e; exact h.ne e.symm)), D, ho, hR⟩
theorem only_of_map {w w1 : World} {wb mb : Nat} (hg : w.grownBy w1 (some mb)) : Only [wb, mb] w w1 := Only.of_grown hg (fun k hk => by injection hk with hk; simp [hk])

set_option maxHeartbeats 1000000 in
theorem acked_any {w : World} {wb mb n : Nat} {rd lo no mark : Int} {M : List (Int × Int)} (h : WAt w wb mb n rd lo M) (hw : (Lit.int .i64 no).wf = true) (h0 : 0 ≤ rd) (hr : rd ≤ 1000000) :
    Calls Try.prog 33 #[.pointer (some ⟨wb, 0, none⟩), .int .i64 no, .int .i64 mark] w fun e w' =>
      e = .returned (.int .i64 (ackedCode M rd no mark)) ∧ WAt w' wb mb n rd (ackedLo M rd lo no mark) (ackedM M rd no mark) ∧ Only [wb, mb] w w' := by
  have c0 := h.c0
  have c1 := h.c1
  have c2 := h.c2
  have z2 := h.z 2
  obtain ⟨D, hown, hR⟩ := h.mp
  have hkey := keyOf_int_mk Try.underlying3 hw
  have H : Hid (WAt w wb mb n rd lo M) := h
  by_cases h1 : M.any (fun p => p.1 == no) = true
  · have hh : Maps.has D (.int .i64 no) = true := by rw [hR.has]; exact h1
    by_cases h2 : mark < 0
    · have e : ackedCode M rd no mark = 10 := by simp only [ackedCode]; rw [if_pos h1, if_pos (.inl h2)]
      have e2 : ackedM M rd no mark = M := by simp [ackedM, e]
      have e3 : ackedLo M rd lo no mark = lo := by simp [ackedLo, e]
      rw [e, e2, e3]
      clear e e2 e3 h hR h1
      go_enter Try.func33, Try.ntmps33
      go_wp2_with (at_lookup; refine wpList_lookup_own_ok_int _ rfl _ _ 66 rfl 3 3 .i64 law3 Try.underlying66 Try.underlying3 (zero3 _) mb n D rfl hown _ _ rfl hkey ?_; intro c hat hwc)
      go_ret
      exact ⟨rfl, H.out, Only.refl _ _⟩
    by_cases h3 : rd + 1 < mark
    · have e : ackedCode M rd no mark = 10 := by simp only [ackedCode]; rw [if_pos h1, if_pos (.inr h3)]
      have e2 : ackedM M rd no mark = M := by simp [ackedM, e]
      have e3 : ackedLo M rd lo no mark = lo := by simp [ackedLo, e]
      rw [e, e2, e3]
      have hc0 := hide c0
      clear e e2 e3 h hR h1
      go_enter Try.func33, Try.ntmps33
      go_wp2_with (first | (at_lookup; refine wpList_lookup_own_ok_int _ rfl _ _ 66 rfl 3 3 .i64 law3 Try.underlying66 Try.underlying3 (zero3 _) mb n D rfl hown _ _ rfl hkey ?_; intro c hat hwc) | (go_at_call 37; refine (next_any (unhide hc0) h0 hr).mono ?_; rintro e w' ⟨rfl, rfl⟩))
      go_ret
      exact ⟨rfl, H.out, Only.refl _ _⟩
    · have e : ackedCode M rd no mark = 0 := by simp only [ackedCode]; rw [if_pos h1, if_neg (by omega)]
      have e2 : ackedM M rd no mark = M.filter (fun p => p.1 != no) := by simp [ackedM, e]
      have e3 : ackedLo M rd lo no mark = if rd < mark then min lo (valOf M no) else lo := by simp [ackedLo, e]
      rw [e, e2, e3]
      have HR : Hid (Reads D M) := hR
      have HP : Hid (Reads (D.del (.int .i64 no)) (M.filter (fun p => p.1 != no))) := hR.del h1
      have HL : Hid (∀ c, D.atKey (.int .i64 no) (i64 0) = i64 c → c = valOf M no) := fun c hc => (valOf_eq hR.nd (hR.look h1 hc)).symm
      have hne := h.ne
      have hlt := h.lt
      have hc0 := hide c0
      by_cases h4 : rd < mark
      · rw [if_pos h4]
        generalize valOf M no = vv at HL ⊢
        clear e e2 e3 h hR h1
        go_enter Try.func33, Try.ntmps33
        go_wp2_with (first | (at_lookup; refine wpList_lookup_own_ok_int _ rfl _ _ 66 rfl 3 3 .i64 law3 Try.underlying66 Try.underlying3 (zero3 _) mb n D rfl hown _ _ rfl hkey ?_; intro c hat hwc; have HC := hide (HL.out c hat)) | (go_at_call 37; refine (next_any (unhide hc0) h0 hr).mono ?_; rintro e w' ⟨rfl, rfl⟩) | (at_delete; refine wpList_delete_own _ rfl _ _ 66 3 rfl 3 law3 Try.underlying66 _ mb n D rfl hown _ _ rfl hkey ?_; intro w1 hown1 hturn1; have HO1 := hide hown1; have HT1 := hide hturn1.grown; have b0 := (hturn1.grown.cell c0 (by intro e; injection e with e; exact hne e.symm)); have b2 := (hturn1.grown.cell c2 (by intro e; injection e with e; exact hne e.symm)); have f2 : w1.frozen? ⟨wb, 2, none⟩ = false := (hturn1.frozen _).trans z2; clear hown1 hturn1))
        · have hlt' : c < lo := by assumption
          go_ret
          have e : min lo vv = c := by rw [← unhide HC]; omega
          rw [e]
          exact ⟨rfl, H.out.lowered (unhide HT1) (unhide HO1) HP.out, (only_of_map (unhide HT1)).setIn (by simp) _⟩
        · have hle' : lo ≤ c := by assumption
          go_ret
          have e : min lo vv = lo := by rw [← unhide HC]; omega
          rw [e]
          exact ⟨rfl, H.out.lowered (unhide HT1) (unhide HO1) HP.out, (only_of_map (unhide HT1)).setIn (by simp) _⟩
      · rw [if_neg h4]
        clear e e2 e3 h hR h1
        go_enter Try.func33, Try.ntmps33
        go_wp2_with (first | (at_lookup; refine wpList_lookup_own_ok_int _ rfl _ _ 66 rfl 3 3 .i64 law3 Try.underlying66 Try.underlying3 (zero3 _) mb n D rfl hown _ _ rfl hkey ?_; intro c hat hwc; have HC := hide (HL.out c hat)) | (go_at_call 37; refine (next_any (unhide hc0) h0 hr).mono ?_; rintro e w' ⟨rfl, rfl⟩) | (at_delete; refine wpList_delete_own _ rfl _ _ 66 3 rfl 3 law3 Try.underlying66 _ mb n D rfl hown _ _ rfl hkey ?_; intro w1 hown1 hturn1; have HO1 := hide hown1; have HT1 := hide hturn1.grown; have b0 := (hturn1.grown.cell c0 (by intro e; injection e with e; exact hne e.symm)); have b2 := (hturn1.grown.cell c2 (by intro e; injection e with e; exact hne e.symm)); have f2 : w1.frozen? ⟨wb, 2, none⟩ = false := (hturn1.frozen _).trans z2; clear hown1 hturn1))
        go_ret
        exact ⟨rfl, H.out.struck (unhide HT1) (unhide HO1) HP.out, only_of_map (unhide HT1)⟩
  · have h1' : M.any (fun p => p.1 == no) = false := eq_false_of_ne_true h1
    have hh : Maps.has D (.int .i64 no) = false := by rw [hR.has]; exact h1'
    have e : ackedCode M rd no mark = 14 := by simp only [ackedCode]; rw [if_neg h1]
    have e2 : ackedM M rd no mark = M := by simp [ackedM, e]
    have e3 : ackedLo M rd lo no mark = lo := by simp [ackedLo, e]
    rw [e, e2, e3]
    clear e e2 e3 h hR h1 h1'
    go_enter Try.func33, Try.ntmps33
    go_wp2_with (at_lookup; refine wpList_lookup_own_ok_int _ rfl _ _ 66 rfl 3 3 .i64 law3 Try.underlying66 Try.underlying3 (zero3 _) mb n D rfl hown _ _ rfl hkey ?_; intro c hat hwc)
    go_ret
    exact ⟨rfl, H.out, Only.refl _ _⟩
end Go.Proofs.Ytdommbaljchofaa
