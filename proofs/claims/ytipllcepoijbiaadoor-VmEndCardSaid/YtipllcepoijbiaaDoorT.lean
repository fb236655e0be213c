/-
  A region that draws its order, and whose last operation writes what an earlier one reads: a load may be taken first as long as something else is left.
-/
import Derived.Deep.RegionHeld3
import Derived.Deep.AppendLies
import Derived.Test.YtipllcepoijbiaaDoorD2
namespace Go.Proofs.YtipllcepoijbiaaDoor
open Go.RowKit Go.Deep
set_option linter.unusedVariables false

section
variable {N : Nat} {P : Program} {ops : Array Oper} {Q : Exit → Act → World → Prop} {md : Region.Mode} {S : World → Prop}
/-- Number m waits for number k. -/
def waitsB (md : Region.Mode) (ops : Array Oper) (m k : Nat) : Bool :=
  match ops[m]? with
  | some o => o.after.any (fun e => Region.binds md e && e.on == k)
  | none => false
/-- The same, through others. -/
def reachB (md : Region.Mode) (ops : Array Oper) : Nat → Nat → Nat → Bool
  | 0, _, _ => false
  | f + 1, m, k => waitsB md ops m k || (List.range ops.size).any fun m' => waitsB md ops m m' && reachB md ops f m' k
/-- Number N waits for all others. -/
def lastB (md : Region.Mode) (ops : Array Oper) (N : Nat) : Bool :=
  (List.range ops.size).all fun k => k == N || reachB md ops 16 N k
/-- What has come up has waited. -/
def Closed (md : Region.Mode) (ops : Array Oper) (listed : Array Bool) : Prop :=
  ∀ j oj, ops[j]? = some oj → listed.getD j false = true → ∀ e ∈ oj.after, Region.binds md e = true → listed.getD e.on false = true
theorem waitsB_spec {m k : Nat} (h : waitsB md ops m k = true) : ∃ o, ops[m]? = some o ∧ ∃ e ∈ o.after, Region.binds md e = true ∧ e.on = k := by
  unfold waitsB at h
  split at h
  · rename_i o ho
    obtain ⟨e, he, hb⟩ := Array.any_eq_true'.1 h
    simp only [Bool.and_eq_true, beq_iff_eq] at hb
    exact ⟨o, ho, e, he, hb.1, hb.2⟩
  · cases h
theorem reachB_listed {listed : Array Bool} (hc : Closed md ops listed) : ∀ f m k, listed.getD m false = true → reachB md ops f m k = true → listed.getD k false = true
  | 0, m, k, _, h => by cases h
  | f + 1, m, k, hm, h => by
    simp only [reachB, Bool.or_eq_true, List.any_eq_true, List.mem_range, Bool.and_eq_true] at h
    rcases h with h | ⟨m', _, h1, h2⟩
    · obtain ⟨o, ho, e, he, hb, hon⟩ := waitsB_spec h
      rw [← hon]
      exact hc m o ho hm e he hb
    · obtain ⟨o, ho, e, he, hb, hon⟩ := waitsB_spec h1
      refine reachB_listed hc f m' k ?_ h2
      rw [← hon]
      exact hc m o ho hm e he hb
theorem ready_last {listed : Array Bool} {k : Nat} (hc : Closed md ops listed) (hN : lastB md ops N = true) (hr : N ∈ Region.ready md ops listed) (hk : k < ops.size) (hne : k ≠ N) : listed.getD k false = true := by
  have h1 := List.all_eq_true.1 hN k (List.mem_range.2 hk)
  simp only [Bool.or_eq_true, beq_iff_eq, hne, false_or, reachB, List.any_eq_true, List.mem_range, Bool.and_eq_true] at h1
  obtain ⟨_, o, ho, hall⟩ := mem_ready.1 hr
  have key : ∀ m', waitsB md ops N m' = true → listed.getD m' false = true := fun m' h => by
    obtain ⟨o', ho', e, he, hb, hon⟩ := waitsB_spec h
    rw [ho] at ho'
    injection ho' with ho'
    subst ho'
    rw [← hon]
    exact hall e he hb
  rcases h1 with h | ⟨m', _, h1, h2⟩
  · exact key k h
  · exact reachB_listed hc 15 m' k (key m' h1) (by simpa [reachB] using h2)
theorem Closed.set {listed : Array Bool} {j : Nat} (hc : Closed md ops listed) (hj : j ∈ Region.ready md ops listed) : Closed md ops (listed.setIfInBounds j true) := by
  intro m om hom hm e he hb
  by_cases hjm : j = m
  · subst hjm
    obtain ⟨_, o, ho, hall⟩ := mem_ready.1 hj
    rw [ho] at hom
    injection hom with hom
    subst hom
    exact getD_set_true (hall e he hb)
  · rw [getD_set_ne false hjm] at hm
    exact getD_set_true (hc m om hom hm e he hb)
/-- Whatever order is picked from here on; S holds behind each operation but the last, number N. -/
def wpAnyT (P : Program) (md : Region.Mode) (ops : Array Oper) (Q : Exit → Act → World → Prop) (S : World → Prop) (N : Nat) : Nat → Array Bool → Act → World → Prop
  | 0, listed, a, w => Region.ready md ops listed = [] ∧ Q .normal a w
  | fuel + 1, listed, a, w =>
    (Region.ready md ops listed = [] → Q .normal a w) ∧
    ∀ i ∈ Region.ready md ops listed, wpOp P ops Q i (fun a' w' => (i = N ∨ S w') ∧ wpAnyT P md ops Q S N fuel (listed.setIfInBounds i true) a' w') a w
theorem wpAny_of_T : ∀ (fuel : Nat) (listed : Array Bool) (a : Act) (w : World), wpAnyT P md ops Q S N fuel listed a w → wpAny P md ops Q fuel listed a w
  | 0, _, _, _, h => h
  | fuel + 1, _, _, _, h => ⟨h.1, fun i hi => wpOp_mono (fun a' w' h' => wpAny_of_T fuel _ a' w' h'.2) (h.2 i hi)⟩
theorem wpAnyT_first {i : Nat} {oi : Oper} {v : Value} (hi : ops[i]? = some oi) (hsel : ∀ (j : Nat) (o : Oper) cs b, ops[j]? = some o → o.op ≠ .select cs b)
    (hN : lastB md ops N = true) (hiN : i ≠ N) (hQ : ∀ c a w, Q (.panic c) (a.put oi.dst v) w → Q (.panic c) a w) :
    ∀ (fuel : Nat) (listed : Array Bool) (a : Act) (w : World),
      Closed md ops listed → (∀ j oj, ops[j]? = some oj → j ≠ i → listed.getD j true = false → (∀ e ∈ oj.after, Region.binds md e = true → e.on ≠ i) → oi.apart ops oj = true) →
      i ∈ Region.ready md ops listed → YieldsIf P ops S oi v a → S w →
      wpAnyT P md ops Q S N fuel (listed.setIfInBounds i true) (a.put oi.dst v) w → wpAnyT P md ops Q S N (fuel + 1) listed a w := by
  intro fuel
  induction fuel with
  | zero =>
    intro listed a w _ _ hr hy hS H
    refine ⟨fun h => (by rw [h] at hr; cases hr), fun j hj => ?_⟩
    by_cases hji : j = i
    · subst hji; exact hy.wpOp hi hS ⟨.inr hS, H⟩
    · have := ready_mono hj hji
      rw [H.1] at this
      cases this
  | succ fuel ih =>
    intro listed a w hcl hfree hr hy hS H
    refine ⟨fun h => (by rw [h] at hr; cases hr), fun j hj => ?_⟩
    by_cases hji : j = i
    · subst hji; exact hy.wpOp hi hS ⟨.inr hS, H⟩
    · have h1 := H.2 j (ready_mono hj hji)
      obtain ⟨hjun, oj, hoj, hall⟩ := mem_ready.1 hj
      have hnot : ∀ e ∈ oj.after, Region.binds md e = true → e.on ≠ i := fun e he hb heq => by
        have h1 := hall e he hb
        have h0 := (mem_ready.1 hr).1
        rw [heq] at h1
        rcases Nat.lt_or_ge i listed.size with h' | h'
        · simp [h'] at h0 h1; rw [h0] at h1; cases h1
        · simp [Array.getElem?_eq_none h'] at h1
      have h2 := wpOp_putIf hoj (hfree j oj hoj hji hjun hnot) (fun cs b => hsel i oi cs b hi) (fun cs b => hsel j oj cs b hoj) hQ hy h1
      have hfree' : ∀ k ok, ops[k]? = some ok → k ≠ i → (listed.setIfInBounds j true).getD k true = false →
          (∀ e ∈ ok.after, Region.binds md e = true → e.on ≠ i) → oi.apart ops ok = true := fun k ok hk hki hun hno => by
        refine hfree k ok hk hki ?_ hno
        by_cases hjk : j = k
        · subst hjk; exact hjun
        · rw [getD_set_ne true hjk] at hun; exact hun
      have hri := ready_mono hr (Ne.symm hji)
      refine wpOp_mono (fun a' w' h3 => ?_) h2
      have hS' : S w' := by
        rcases h3.2.1 with e | e
        · exfalso
          subst e
          have h0 := (mem_ready.1 hr).1
          have h1 := ready_last hcl hN hj (Array.getElem?_eq_some_iff.1 hi).1 hiN
          rcases Nat.lt_or_ge i listed.size with h' | h'
          · simp [h'] at h0 h1; rw [h0] at h1; cases h1
          · simp [Array.getElem?_eq_none h'] at h1
        · exact e
      refine ⟨.inr hS', ih (listed.setIfInBounds j true) a' w' (hcl.set hj) hfree' hri h3.1 hS' ?_⟩
      rw [Array.setIfInBounds_comm _ _ hji]
      exact h3.2.2
/-- Take number 'i' first. -/
theorem wpAnyT_take {i : Nat} {v : Value} {fuel : Nat} {listed : Array Bool} {a : Act} {w : World} (d : Option Tmp) (hlt : decide (i < ops.size) = true)
    (hs : Region.noSelect ops = true) (hf : Region.free md ops listed i = true) (hr : (Region.ready md ops listed).contains i = true) (hN : Hid (lastB md ops N = true)) (hiN : i ≠ N) (hcl : Hid (Closed md ops listed))
    (hQ : ∀ c a w, Q (.panic c) (a.put d v) w → Q (.panic c) a w) (hy : ∀ oi, ops[i]? = some oi → oi.dst = d ∧ YieldsIf P ops S oi v a) (hS : S w)
    (h : Hid (Closed md ops (listed.setIfInBounds i true)) → wpAnyT P md ops Q S N fuel (listed.setIfInBounds i true) (a.put d v) w) : wpAnyT P md ops Q S N (fuel + 1) listed a w := by
  obtain ⟨hd, hy2⟩ := hy _ (Array.getElem?_eq_getElem (of_decide_eq_true hlt))
  subst hd
  exact wpAnyT_first (Array.getElem?_eq_getElem (of_decide_eq_true hlt)) (Region.noSelect_spec hs) (unhide hN) hiN hQ fuel listed a w (unhide hcl) (Region.free_spec (Array.getElem?_eq_getElem (of_decide_eq_true hlt)) hf) (by simpa using hr) hy2 hS (h (hide ((unhide hcl).set (by simpa using hr))))
/-- One alone may come up. -/
theorem wpAnyT_one {i : Nat} {fuel : Nat} {listed : Array Bool} {a : Act} {w : World} (hr : Region.ready md ops listed = [i]) (hlt : decide (i < ops.size) = true) (hcl : Hid (Closed md ops listed))
    (h : ∀ o, ops[i]? = some o → ∀ K' : Act → World → Prop, Hid (∀ a w, (i = N ∨ S w) → (Hid (Closed md ops (listed.setIfInBounds i true)) → wpAnyT P md ops Q S N fuel (listed.setIfInBounds i true) a w) → K' a w) → if Region.wanted o (yielded ops a.tmps) = true then Oper.wp P o a w K' Q else K' (a.put o.dst undef) w) :
    wpAnyT P md ops Q S N (fuel + 1) listed a w := by
  refine ⟨fun h0 => (by rw [hr] at h0; cases h0), fun j hj => ?_⟩
  rw [hr] at hj
  simp only [List.mem_singleton] at hj
  subst hj
  have ho := Array.getElem?_eq_getElem (of_decide_eq_true hlt)
  exact wpOp_step ho fun K' hK => h _ ho K' fun a w hS hW => hK a w ⟨hS, hW (hide ((unhide hcl).set (by rw [hr]; simp)))⟩
theorem wpAnyT_done {listed : Array Bool} {a : Act} {w : World} (hr : Region.ready md ops listed = []) (h : Q .normal a w) : ∀ fuel, wpAnyT P md ops Q S N fuel listed a w
  | 0 => ⟨hr, h⟩
  | _ + 1 => ⟨fun _ => h, by rw [hr]; simp⟩
theorem wp_region_T {id : Nat} {a : Act} {w : World} (S : World → Prop) (N n : Nat) (hn : ops.size = n) (hm : P.follows .mixedOrders = true) (hN : lastB .any ops N = true)
    (h : Hid (lastB .any ops N = true) → Hid (Closed .any ops (Array.replicate n false)) → wpAnyT P .any ops Q S N n (Array.replicate n false) a w.drew) : (Code.region id ops true).wp P Q a w := by
  subst hn
  exact wp_region_any hm (wpAny_of_T _ _ _ _ (h hN (fun j oj hj hl => by
    have hlt := (Array.getElem?_eq_some_iff.1 hj).1
    simp [hlt] at hl)))
end
end Go.Proofs.YtipllcepoijbiaaDoor
