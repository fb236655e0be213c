/-
  The contracts of (*Worker).Open and Start.
-/
import Derived.Test.YtdommbaljchofaaC
import Derived.Deep.LoopGhost
namespace Go.Proofs.Ytdommbaljchofaa
open Go.RowKit Go.Deep Go.Maps
set_option linter.unusedVariables false

theorem same_key (x y : Int) : (Lit.int .i64 x).sameKey (.int .i64 y) = (x == y) := by
  simp only [Lit.sameKey]
  by_cases e : x = y <;> simp [e]
theorem min_if (m c : Int) : (if c < m then c else m) = min m c := by split <;> omega
set_option maxRecDepth 100000 in
set_option maxHeartbeats 1000000 in
theorem open_any {w : World} {wb mb n : Nat} {rd lo : Int} {M : List (Int × Int)} (h : WAt w wb mb n rd lo M) :
    Calls Try.prog 13 #[.pointer (some ⟨wb, 0, none⟩)] w fun e w' => e = .returned (.tuple #[.int .i64 M.length, .int .i64 (leastOf (M.map (·.2)))]) ∧ Only [] w w' := by
  have c1 := h.c1
  have lt1 := h.lt
  have H : Hid (WAt w wb mb n rd lo M) := h
  obtain ⟨D, hown, hR⟩ := h.mp
  have HR : Hid (Reads D M) := hR
  clear h hR
  go_enter Try.func13, Try.ntmps13
  go_wp2_with (first
    | (at_range; refine wpList_range_own _ rfl _ 66 rfl 3 3 law3 Try.underlying66 _ mb n _ rfl hown ?_; intro w0 hrg0 hg0 hs0)
    | go_in)
  go_frame
  go_loopw [4] (fun lv wr => ∃ (left : Lit → Bool) (cnt : Nat) (m : Int), lv = .int .i64 m ∧ wr.ranges Try.prog 3 (plainElem Try.prog 3) mb w.heap.size n D left cnt ∧ Below w.heap.size w wr ∧ Least M (fun x => !left (.int .i64 x)) m)
    (fun _ wr => wr.rangeLeft mb w.heap.size)
  case atStart =>
    refine ⟨_, _, _, rfl, hrg0, (Below.refl _ _).grown hg0 (Nat.le_refl _) (by simp), (Least.start M).congr fun p hp => ?_⟩
    have : M.any (fun q => q.1 == p.1) = true := List.any_eq_true.2 ⟨p, hp, by simp⟩
    simp [HR.out.has, this]
  case round =>
    obtain ⟨left, cnt, m, rfl, hrg, hbl, hle⟩ := hrel
    have HLE : Hid (Least M (fun x => !left (.int .i64 x)) m) := hle
    have c1' : wr.cell? ⟨wb, 1, none⟩ = some (.map (some mb)) := (hbl.cell (p := ⟨wb, 1, none⟩) lt1).trans c1
    have HB : Hid (Below w.heap.size w wr) := hbl
    clear hle hbl
    go_wp2_with (first
      | (at_next; refine wpList_next_ranges_ii _ rfl _ rfl 3 3 .i64 .i64 law3 Try.underlying3 Try.underlying3 mb w.heap.size n _ _ _ rfl hrg ?_ ?_)
      | go_in)
    · intro _ hl0
      have hown' := hrg.owns
      have HL0 : Hid (∀ kl, left kl = false) := hl0
      have hs := HR.out.size
      clear hl0 hrg
      go_wp2_with (at_len; refine wpList_len_own _ rfl _ 66 rfl 3 3 Try.underlying66 _ mb n D rfl hown' ?_)
      go_ret2
      refine ⟨?_, Only.of_below HB.out []⟩
      have e : m = leastOf (M.map (·.2)) := HLE.out.all (fun p _ => by simp [HL0.out])
      rw [← e, ← hs]
      rfl
    · intro x c w1 cnt1 hwx hwc hlx hat hrg1 hlt hg1 hs1 hen
      have hin : (x, c) ∈ M := HR.out.look (by rw [← HR.out.has]; exact has_true_of_atKey hat) (hat _)
      have HN : Hid (Least M (fun y => !(left (.int .i64 y) && !(Lit.int .i64 y).sameKey (.int .i64 x))) (min m c)) := (HLE.out.step HR.out.nd hin).congr fun p _ => by
        simp only [same_key]
        cases left (.int .i64 p.1) <;> simp
      have HB1 : Hid (Below w.heap.size w w1) := HB.out.grown hg1 HB.out.size (fun k hk => by injection hk with hk; omega)
      have HG : Hid (w1.ranges Try.prog 3 (plainElem Try.prog 3) mb w.heap.size n D (fun z => left z && !z.sameKey (.int .i64 x)) cnt1) := hrg1
      have HM : Hid (w1.rangeLeft mb w.heap.size < wr.rangeLeft mb w.heap.size) := by
        show w1.rangeLeft mb w.heap.size < wr.rangeLeft mb w.heap.size
        rw [hrg1.left_eq, hrg.left_eq]
        exact hlt
      clear hat hrg1 hg1 hs1 hlx hin hrg hlt
      go_wp2_with fail
      exact ⟨⟨_, cnt1, min m c, by rw [min_if], HG.out, HB1.out, HN.out⟩, HM.out⟩

/-- A slice of numbers that came in, or is the call's own: it lies behind A. -/
def IntsAt (w : World) (A : Option Addr) (L : List Int) : Prop := ∀ i (h : i < L.length), ∃ b off, A = some ⟨b, off, none⟩ ∧ b < w.heap.size ∧ w.cell? ⟨b, off + i, none⟩ = some (.int .i64 (L[i]'h))
theorem IntsAt.only {w w' : World} {A : Option Addr} {L : List Int} {s : List Nat} (h : IntsAt w A L) (k : Only s w w') (hs : ∀ a, A = some a → a.block ∉ s) : IntsAt w' A L := by
  intro i hi
  obtain ⟨b, off, rfl, hlt, hc⟩ := h i hi
  exact ⟨b, off, rfl, Nat.lt_of_lt_of_le hlt k.size, (k.cell (p := ⟨b, off + i, none⟩) hlt (hs ⟨b, off, none⟩ rfl)).trans hc⟩
theorem IntsAt.only0 {w w' : World} {A : Option Addr} {L : List Int} (h : IntsAt w A L) (k : Only [] w w') : IntsAt w' A L := h.only k (by simp)

theorem start1_any {at_ : Int} (w : World) : Calls Try.prog 39 #[.int .i64 at_] w fun e w' => e = .returned (.bool (!decide (IsTime at_))) ∧ w = w' := by
  go_enter Try.func39, Try.ntmps39
  go_wp2_with fail
  refine (time_any _).mono ?_
  rintro e w' ⟨rfl, rfl⟩
  go_wp2_with fail
  go_ret
  exact ⟨rfl, rfl⟩

/-- The place of the first number that is no time; -1. -/
def badAt (L : List Int) : Int := if ∀ x ∈ L, IsTime x then -1 else 0
set_option maxHeartbeats 1000000 in
theorem index_any {w : World} {A : Option Addr} {c : Nat} {L : List Int} (hL : L.length ≤ 1000000) (h : IntsAt w A L) :
    Calls Try.prog 45 #[.slice A L.length c, .func (.func 39) #[] #[]] w fun e w' => (∃ r : Int, e = .returned (.int .i64 r) ∧ ((r = -1 ∧ ∀ x ∈ L, IsTime x) ∨ (0 ≤ r ∧ ¬ ∀ x ∈ L, IsTime x))) ∧ w = w' := by
  have H : Hid (IntsAt w A L) := h
  clear h
  go_enter Try.func45, Try.ntmps45
  go_wp2_with fail
  go_loopg [8] L.length (fun g i wr => ∃ j : Nat, j + g = L.length ∧ i = .int .i64 j ∧ w = wr ∧ ∀ k (hk : k < L.length), k < j → IsTime (L[k]'hk))
  case atStart => exact ⟨0, by omega, rfl, rfl, fun k _ hk => absurd hk (by omega)⟩
  case round =>
    obtain ⟨j, hjg, rfl, rfl, hall⟩ := hrel
    have HA : Hid (∀ k (hk : k < L.length), k < j → IsTime (L[k]'hk)) := hall
    clear hall
    by_cases hj : j < L.length
    · obtain ⟨b, off, rfl, hlt, hc⟩ := H.out j hj
      generalize hx : L[j]'hj = x at hc
      have HX : Hid (L[j]'hj = x) := hx
      clear hx
      go_wp2_with fail
      refine (start1_any _).mono ?_
      rintro e w' ⟨rfl, rfl⟩
      by_cases ht : IsTime x
      · have hd : decide (IsTime x) = true := by simpa using ht
        rw [hd]
        have HT : Hid (IsTime x) := ht
        clear hd ht
        go_wp2_with fail
        go_roundg (L.length - (j + 1))
        case measure => omega
        case rel =>
          refine ⟨j + 1, by omega, by go_num, rfl, fun k hk hkj => ?_⟩
          by_cases e : k = j
          · subst e; rw [HX.out]; exact HT.out
          · exact HA.out k hk (by omega)
      · have hd : decide (IsTime x) = false := by simpa using ht
        rw [hd]
        have HT : Hid (¬ IsTime x) := ht
        clear hd ht
        go_wp2_with fail
        go_ret
        refine ⟨⟨j, rfl, .inr ⟨by omega, fun hall => HT.out ?_⟩⟩, rfl⟩
        rw [← HX.out]
        exact hall _ (List.getElem_mem hj)
    · go_wp2_with fail
      go_ret
      refine ⟨⟨-1, rfl, .inl ⟨rfl, fun x hx => ?_⟩⟩, rfl⟩
      obtain ⟨k, hk, rfl⟩ := List.mem_iff_getElem.1 hx
      exact HA.out k hk (by omega)

theorem contains_any {w : World} {A : Option Addr} {c : Nat} {L : List Int} (hL : L.length ≤ 1000000) (h : IntsAt w A L) :
    Calls Try.prog 38 #[.slice A L.length c, .func (.func 39) #[] #[]] w fun e w' => e = .returned (.bool (decide (¬ ∀ x ∈ L, IsTime x))) ∧ w = w' := by
  have H : Hid (IntsAt w A L) := h
  clear h
  go_enter Try.func38, Try.ntmps38
  go_wp2_with fail
  refine (index_any hL H.out).mono ?_
  rintro e w' ⟨⟨r, rfl, hr⟩, rfl⟩
  rcases hr with ⟨rfl, hr⟩ | ⟨h0, hr⟩
  · have e : decide (¬ ∀ x ∈ L, IsTime x) = false := decide_eq_false (fun h => h hr)
    have HE := hide e
    clear e hr
    go_wp2_with fail
    go_ret
    exact ⟨by rw [unhide HE]; rfl, rfl⟩
  · have e : decide (¬ ∀ x ∈ L, IsTime x) = true := decide_eq_true hr
    have HE := hide e
    clear e hr
    go_wp2_with fail
    go_ret
    exact ⟨by rw [unhide HE]; rfl, rfl⟩

def startCode (rd round : Int) (L : List Int) : Int := if round = rd + 1 then (if ∀ x ∈ L, IsTime x then 0 else 10) else 19
def startRes (M : List (Int × Int)) (rd lo round : Int) (L : List Int) : Int := if startCode rd round L = 0 then min (L.foldl min (leastOf (M.map (·.2)))) lo else 0
def startRd (rd round : Int) (L : List Int) : Int := if startCode rd round L = 0 then round else rd
def startLo (rd lo round : Int) (L : List Int) : Int := if startCode rd round L = 0 then Never else lo

theorem WAt.started {w : World} {wb mb n : Nat} {rd lo rd' lo' : Int} {M : List (Int × Int)} (h : WAt w wb mb n rd lo M) :
    WAt ((w.setCell ⟨wb, 0, none⟩ (.int .i64 rd')).setCell ⟨wb, 2, none⟩ (.int .i64 lo')) wb mb n rd' lo' M := by
  obtain ⟨D, hD, hR⟩ := h.mp
  refine ⟨((h.hd.set 0 _).set 2 _).congr fun o ho' => ?_, D, (hD.setCell (a := ⟨wb, 0, none⟩) h.ne _).setCell (a := ⟨wb, 2, none⟩) h.ne _, hR⟩
  simp only [wkF]
  rcases (show o = 0 ∨ o = 1 ∨ o = 2 by omega) with rfl | rfl | rfl <;> rfl

set_option maxRecDepth 100000 in
set_option maxHeartbeats 2000000 in
theorem start_any {w : World} {wb mb n c : Nat} {rd lo round : Int} {M : List (Int × Int)} {A : Option Addr} {L : List Int} (h : WAt w wb mb n rd lo M) (h0 : 0 ≤ rd) (hr : rd ≤ 1000000) (hL : L.length ≤ 1000000) (hI : IntsAt w A L) :
    Calls Try.prog 17 #[.pointer (some ⟨wb, 0, none⟩), .int .i64 round, .slice A L.length c] w fun e w' =>
      e = .returned (.tuple #[.int .i64 (startRes M rd lo round L), .int .i64 (startCode rd round L)]) ∧ WAt w' wb mb n (startRd rd round L) (startLo rd lo round L) M ∧ Only [wb, mb] w w' := by
  have c0 := h.c0
  have c2 := h.c2
  have hc0 := hide c0
  have H : Hid (WAt w wb mb n rd lo M) := h
  have HI : Hid (IntsAt w A L) := hI
  clear h hI
  by_cases h1 : round = rd + 1
  · have hb : (round != rd + 1) = false := by simpa using h1
    by_cases h2 : ∀ x ∈ L, IsTime x
    · have e : startCode rd round L = 0 := by simp only [startCode]; rw [if_pos h1, if_pos h2]
      have HF : Hid (startRes M rd lo round L = min (L.foldl min (leastOf (M.map (·.2)))) lo ∧ startCode rd round L = 0 ∧ startRd rd round L = round ∧ startLo rd lo round L = Never) := by
        refine ⟨?_, e, ?_, ?_⟩
        · simp [startRes, e]
        · simp [startRd, e]
        · simp [startLo, e]
      have HD : Hid (decide (¬ ∀ x ∈ L, IsTime x) = false) := decide_eq_false (fun h => h h2)
      clear e h1 h2
      go_enter Try.func17, Try.ntmps17
      go_wp2_with (go_at_call 37; refine (next_any (unhide hc0) h0 hr).mono ?_; rintro e w' ⟨rfl, rfl⟩)
      refine (contains_any hL HI.out).mono ?_
      rintro e w' ⟨rfl, rfl⟩
      rw [HD.out]
      go_wp2_with fail
      refine (open_any H.out).mono ?_
      rintro e w1 ⟨rfl, ho⟩
      have H1 : Hid (WAt w1 wb mb n rd lo M) := H.out.only0 ho
      have HI1 : Hid (IntsAt w1 A L) := HI.out.only0 ho
      have HO1 : Hid (Only [] w w1) := ho
      generalize leastOf (M.map (·.2)) = mm at HF ⊢
      clear ho c0 c2
      have c2 := H1.out.c2
      have c0 := H1.out.c0
      have z0 := H1.out.z 0
      have z2 := H1.out.z 2
      go_wp2_with fail
      go_loopg [9, 32] L.length (fun g v i wr => ∃ j : Nat, j + g = L.length ∧ i = .int .i64 j ∧ w1 = wr ∧ v = .int .i64 ((L.take j).foldl min mm))
      case atStart => exact ⟨0, by omega, rfl, rfl, rfl⟩
      case round =>
        obtain ⟨j, hjg, rfl, rfl, rfl⟩ := hrel
        by_cases hj : j < L.length
        · obtain ⟨b, off, rfl, hlt, hc⟩ := HI1.out j hj
          generalize hx : L[j]'hj = x at hc
          have HX : Hid (L[j]'hj = x) := hx
          have hsn : (L.take (j + 1)).foldl min mm = min ((L.take j).foldl min mm) x := by
            rw [List.take_succ_eq_append_getElem hj, List.foldl_append, hx]
            rfl
          have HSN := hide hsn
          generalize (L.take j).foldl min mm = acc at HSN ⊢
          clear hx hsn
          go_wp2_with fail
          all_goals
            go_roundg (L.length - (j + 1))
            case measure => omega
            case rel => exact ⟨j + 1, by omega, by go_num, rfl, by rw [unhide HSN]; first | rw [min_if] | (congr 1; omega)⟩
        · have hte : L.take j = L := List.take_of_length_le (by omega)
          rw [hte]
          generalize L.foldl min mm = acc at HF ⊢
          clear hte
          go_wp2_with fail
          · have hlt : lo < acc := by assumption
            obtain ⟨f1, f2, f3, f4⟩ := HF.out
            go_ret2
            rw [f1, f2, f3, f4, show min acc lo = lo by omega]
            exact ⟨rfl, H1.out.started, ((HO1.out.mono (by simp)).setIn (by simp) _).setIn (by simp) _⟩
          · have hle : acc ≤ lo := by assumption
            obtain ⟨f1, f2, f3, f4⟩ := HF.out
            go_ret2
            rw [f1, f2, f3, f4, show min acc lo = acc by omega]
            exact ⟨rfl, H1.out.started, ((HO1.out.mono (by simp)).setIn (by simp) _).setIn (by simp) _⟩
    · have e : startCode rd round L = 10 := by simp only [startCode]; rw [if_pos h1, if_neg h2]
      have HF : Hid (startRes M rd lo round L = 0 ∧ startCode rd round L = 10 ∧ startRd rd round L = rd ∧ startLo rd lo round L = lo) := by
        refine ⟨?_, e, ?_, ?_⟩
        · simp [startRes, e]
        · simp [startRd, e]
        · simp [startLo, e]
      have HD : Hid (decide (¬ ∀ x ∈ L, IsTime x) = true) := decide_eq_true h2
      clear e h1 h2
      go_enter Try.func17, Try.ntmps17
      go_wp2_with (go_at_call 37; refine (next_any (unhide hc0) h0 hr).mono ?_; rintro e w' ⟨rfl, rfl⟩)
      refine (contains_any hL HI.out).mono ?_
      rintro e w' ⟨rfl, rfl⟩
      rw [HD.out]
      go_wp2_with fail
      obtain ⟨f1, f2, f3, f4⟩ := HF.out
      go_ret2
      rw [f1, f2, f3, f4]
      exact ⟨rfl, H.out, Only.refl _ _⟩
  · have hb : (round != rd + 1) = true := by simpa using h1
    have e : startCode rd round L = 19 := by simp only [startCode]; rw [if_neg h1]
    have HF : Hid (startRes M rd lo round L = 0 ∧ startCode rd round L = 19 ∧ startRd rd round L = rd ∧ startLo rd lo round L = lo) := by
      refine ⟨?_, e, ?_, ?_⟩
      · simp [startRes, e]
      · simp [startRd, e]
      · simp [startLo, e]
    clear e h1
    go_enter Try.func17, Try.ntmps17
    go_wp2_with (go_at_call 37; refine (next_any (unhide hc0) h0 hr).mono ?_; rintro e w' ⟨rfl, rfl⟩)
    obtain ⟨f1, f2, f3, f4⟩ := HF.out
    go_ret2
    rw [f1, f2, f3, f4]
    exact ⟨rfl, H.out, Only.refl _ _⟩
end Go.Proofs.Ytdommbaljchofaa
