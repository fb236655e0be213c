/-
  The statements' world in memory: what turns.
-/
import Derived.Test.YtdommbaljchofaaXA
namespace Go.Proofs.Ytdommbaljchofaa
open Go.RowKit Go.Deep
set_option linter.unusedVariables false

section
variable {α : Type} {R : α → α → Prop} {l : List α} {i j : Nat} {a b : α}
theorem pw_at (h : l.Pairwise R) (hs : ∀ a b, R a b → R b a) (hi : l[i]? = some a) (hj : l[j]? = some b) (ne : i ≠ j) : R a b := by
  obtain ⟨hi', rfl⟩ := List.getElem?_eq_some_iff.1 hi
  obtain ⟨hj', rfl⟩ := List.getElem?_eq_some_iff.1 hj
  have h' := List.pairwise_iff_getElem.1 h
  rcases Nat.lt_or_ge i j with hlt | hge
  · exact h' i j hi' hj' hlt
  · exact hs _ _ (h' j i hj' hi' (by omega))
theorem pw_set (h : l.Pairwise R) (ha : ∀ j b, l[j]? = some b → j ≠ i → R a b ∧ R b a) : (l.set i a).Pairwise R := by
  rw [List.pairwise_iff_getElem]
  intro p q hp hq hpq
  simp only [List.length_set] at hp hq
  rw [List.getElem_set, List.getElem_set]
  by_cases e1 : i = p
  · rw [if_pos e1, if_neg (by omega)]
    exact (ha q _ (List.getElem?_eq_getElem hq) (by omega)).1
  · rw [if_neg e1]
    by_cases e2 : i = q
    · rw [if_pos e2]
      exact (ha p _ (List.getElem?_eq_getElem hp) (by omega)).2
    · rw [if_neg e2]
      exact List.pairwise_iff_getElem.1 h p q hp hq hpq
theorem mem_set_iff (hm : b ∈ l.set i a) : b = a ∨ ∃ j, j ≠ i ∧ l[j]? = some b := by
  obtain ⟨j, hj, e⟩ := List.mem_iff_getElem.1 hm
  simp only [List.length_set] at hj
  rw [List.getElem_set] at e
  by_cases e1 : i = j
  · rw [if_pos e1] at e
    exact .inl e.symm
  · rw [if_neg e1] at e
    exact .inr ⟨j, by omega, by rw [List.getElem?_eq_getElem hj, e]⟩
theorem map_set_same {β : Type} (f : α → β) (hi : l[i]? = some b) (e : f a = f b) : (l.set i a).map f = l.map f := by
  apply List.ext_getElem?
  intro j
  rw [List.getElem?_map, List.getElem?_map, List.getElem?_set]
  by_cases h : i = j
  · subst h
    obtain ⟨hlt, rfl⟩ := List.getElem?_eq_some_iff.1 hi
    simp [hlt, e]
  · rw [if_neg h]
theorem map_set_new {β : Type} (f : α → β) : (l.set i a).map f = (l.map f).set i (f a) := by rw [List.map_set]
end

namespace XAt
variable {W w w' : World} {xb : Nat} {x : XS}
/-- A worker has turned. -/
theorem worker (h : XAt W w xb x) {i n' : Nat} {k : WK} {s' : WS} (hi : x.K[i]? = some k) (hW : WAt w' k.wb k.mb n' s'.rd s'.lo s'.M) (hO : Only [k.wb, k.mb] w w') :
    XAt W w' xb { x with K := x.K.set i ⟨k.wb, k.mb, n', s'⟩ } := by
  have hk : k ∈ x.K := List.mem_of_getElem? hi
  have hka := h.ka k hk
  obtain ⟨D, hD, _⟩ := hka.mp
  have f := h.frame (Ts := [70, 1000000]) hO (by
      intro b hb
      simp only [List.mem_cons, List.not_mem_nil, or_false] at hb
      rcases hb with rfl | rfl
      · exact (h.kb k hk).1
      · exact (h.kb k hk).2) (by
      intro b hb
      simp only [List.mem_cons, List.not_mem_nil, or_false] at hb
      rcases hb with rfl | rfl
      · exact ⟨70, by simp, kind_row hka.hd⟩
      · exact ⟨1000000, by simp, kind_map hD⟩)
  have em : (x.K.set i ⟨k.wb, k.mb, n', s'⟩).map WK.ptr = x.K.map WK.ptr := map_set_same WK.ptr hi rfl
  refine ⟨f.bl, (f.hd (by decide)).congr fun o _ => by simp [xF], h.xb, ?_, f.ow (by decide), f.lr (by decide), ?_, ?_, ?_, f.oa (by decide), h.one, f.ma (by decide) (by decide), h.mb1, h.mb2⟩
  · show w'.ownsRow _ 23 1 (.slice x.kv (x.K.set i _).length x.kc) (x.K.set i _).length ((x.K.set i _).map WK.ptr)
    rw [em, List.length_set]
    exact f.kr (by decide)
  · intro q hq
    rcases mem_set_iff hq with rfl | ⟨j, hj, hjq⟩
    · exact hW
    · have hq' : q ∈ x.K := List.mem_of_getElem? hjq
      have hne := pw_at h.kne (fun a b hab => ⟨fun e => hab.1 e.symm, fun e => hab.2 e.symm⟩) hjq hi hj
      have hqa := h.ka q hq'
      obtain ⟨D', hD', _⟩ := hqa.mp
      refine hqa.only hO ?_ ?_
      · simp only [List.mem_cons, List.not_mem_nil, or_false, not_or]
        exact ⟨hne.1, fun e => map_row_ne hD hqa.hd e.symm⟩
      · simp only [List.mem_cons, List.not_mem_nil, or_false, not_or]
        exact ⟨fun e => map_row_ne hD' hka.hd e, hne.2⟩
  · intro q hq
    rcases mem_set_iff hq with rfl | ⟨j, hj, hjq⟩
    · exact h.kb k hk
    · exact h.kb q (List.mem_of_getElem? hjq)
  · refine pw_set h.kne fun j b hb hj => ?_
    have hne := pw_at h.kne (fun a b hab => ⟨fun e => hab.1 e.symm, fun e => hab.2 e.symm⟩) hb hi hj
    exact ⟨⟨fun e => hne.1 e.symm, fun e => hne.2 e.symm⟩, hne⟩
/-- The master has turned. -/
theorem master (h : XAt W w xb x) {tb' : Nat} {rd' least' time' : Int} {told' : Nat → Bool} {run' : Bool} (hM : MAt w' x.qb tb' x.n rd' told' run' least' time') (hO : Only [x.qb, x.tb] w w') (hb : W.heap.size ≤ tb') :
    XAt W w' xb { x with tb := tb', rd := rd', told := told', run := run', least := least', time := time' } := by
  have f := h.frame (Ts := [77, 4]) hO (by
      intro b hb
      simp only [List.mem_cons, List.not_mem_nil, or_false] at hb
      rcases hb with rfl | rfl
      · exact h.mb1
      · exact h.mb2) (by
      intro b hb
      simp only [List.mem_cons, List.not_mem_nil, or_false] at hb
      rcases hb with rfl | rfl
      · exact ⟨77, by simp, kind_row h.ma.hd⟩
      · exact ⟨4, by simp, kind_row h.ma.tl⟩)
  exact ⟨f.bl, f.hd (by decide), h.xb, f.kr (by decide), f.ow (by decide), f.lr (by decide), f.ka (by decide) (by decide), h.kb, h.kne, f.oa (by decide), h.one, hM, h.mb1, hb⟩
theorem own_ge' {base : Nat} {e : TypeId} {size : Nat} {A : Option Addr} {n c : Nat} {xs : List Value} (r : w.ownsRow base e size (.slice A n c) n xs) : ∀ b ∈ ob A n c, base ≤ b := fun b hb => owned_ge r b (by simpa [ob] using hb)
theorem own_kind' {base : Nat} {e : TypeId} {size : Nat} {A : Option Addr} {n c : Nat} {xs : List Value} (r : w.ownsRow base e size (.slice A n c) n xs) : ∀ b ∈ ob A n c, kindOf w b = some e := fun b hb => kind_owns r b (by simpa [ob] using hb)
/-- What is on its way has turned: a new row, or the old one. -/
theorem packets (h : XAt W w xb x) {lv' : Option Addr} {lc' : Nat} {l' : List Pk} (hown : w'.ownsRow W.heap.size 79 5 (.slice lv' l'.length lc') l'.length (l'.flatMap Pk.cells)) (hO : Only (ob x.lv x.l.length x.lc) w w') :
    XAt W (w'.setCell ⟨xb, 2, none⟩ (.slice lv' l'.length lc')) xb { x with lv := lv', lc := lc', l := l' } := by
  have f0 := h.frame (Ts := [79]) hO (own_ge' h.lr) (fun b hb => ⟨79, by simp, own_kind' h.lr b hb⟩)
  have f := h.frame (w' := w'.setCell ⟨xb, 2, none⟩ (.slice lv' l'.length lc')) (s := xb :: ob x.lv x.l.length x.lc) (Ts := [54, 79]) ((hO.mono (by intro i hi; simp [hi])).setIn (by simp) _) (by
      intro b hb
      simp only [List.mem_cons] at hb
      rcases hb with rfl | hb
      · exact h.xb
      · exact own_ge' h.lr b hb) (by
      intro b hb
      simp only [List.mem_cons] at hb
      rcases hb with rfl | hb
      · exact ⟨54, by simp, kind_row h.hd⟩
      · exact ⟨79, by simp, own_kind' h.lr b hb⟩)
  have hd' := f0.hd (by decide)
  refine ⟨f.bl, (hd'.set 2 _).congr fun o ho => ?_, h.xb, f.kr (by decide), f.ow (by decide), ?_, f.ka (by decide) (by decide), h.kb, h.kne, f.oa (by decide), h.one, f.ma (by decide) (by decide), h.mb1, h.mb2⟩
  · rcases (show o = 0 ∨ o = 1 ∨ o = 2 ∨ o = 3 ∨ o = 4 ∨ o = 5 by omega) with rfl | rfl | rfl | rfl | rfl | rfl <;> rfl
  · exact own_far hown (fun e => owns_row_ne hown hd' (by decide) xb e rfl) _
/-- A worker's open times have turned. -/
theorem openAt (h : XAt W w xb x) {i g : Nat} {o : OK} {A' : Option Addr} {c' : Nat} {L' : List Int} (hi : x.O[i]? = some o) (hov : x.ov = some ⟨g, 0, none⟩) (hown : OwnsI w' W.heap.size A' c' L') (hO : Only (ob o.A o.L.length o.c) w w')
    (hsep : ∀ b, (Value.slice A' L'.length c').ownBlock = some b → o.val.ownBlock = some b ∨ w.heap.size ≤ b) :
    XAt W (w'.setCell ⟨g, i, none⟩ (.slice A' L'.length c')) xb { x with O := x.O.set i ⟨A', c', L'⟩ } := by
  have ho : o ∈ x.O := List.mem_of_getElem? hi
  have hoa := h.oa o ho
  have f0 := h.frame (Ts := [3]) hO (own_ge' hoa) (fun b hb => ⟨3, by simp, own_kind' hoa b hb⟩)
  have hgl : g ∈ ob x.ov x.O.length x.oc := by simp [ob, hov, Value.ownBlock]
  have f := h.frame (w' := w'.setCell ⟨g, i, none⟩ (.slice A' L'.length c')) (s := g :: ob o.A o.L.length o.c) (Ts := [28, 3]) ((hO.mono (by intro i hi; simp [hi])).setIn (by simp) _) (by
      intro b hb
      simp only [List.mem_cons] at hb
      rcases hb with rfl | hb
      · exact own_ge' h.ow b hgl
      · exact own_ge' hoa b hb) (by
      intro b hb
      simp only [List.mem_cons] at hb
      rcases hb with rfl | hb
      · exact ⟨28, by simp, own_kind' h.ow b hgl⟩
      · exact ⟨3, by simp, own_kind' hoa b hb⟩)
  have ow' := f0.ow (by decide)
  rw [hov] at ow'
  have hst := (ow'.stored i (.slice A' L'.length c')).1
  have hgk : kindOf w' g = some 28 := kind_owns ow' g rfl
  refine ⟨f.bl, (f.hd (by decide)).congr fun o _ => by simp [xF], h.xb, f.kr (by decide), ?_, f.lr (by decide), f.ka (by decide) (by decide), h.kb, h.kne, ?_, ?_, f.ma (by decide) (by decide), h.mb1, h.mb2⟩
  · show ((w'.setCell ⟨g, i, none⟩ (.slice A' L'.length c'))).ownsRow _ 28 1 (.slice x.ov (x.O.set i _).length x.oc) (x.O.set i _).length ((x.O.set i _).map OK.val)
    rw [map_set_new, List.length_set, hov]
    exact hst
  · intro q hq
    rcases mem_set_iff hq with rfl | ⟨j, hj, hjq⟩
    · exact own_far hown (fun e => by
        have := kind_owns hown g e
        rw [hgk] at this
        injection this with this
        exact absurd this (by decide)) _
    · have hq' : q ∈ x.O := List.mem_of_getElem? hjq
      have hne := pw_at h.one (fun a b hab g hg hg2 => hab g hg2 hg) hjq hi hj
      have h1 : OwnsI w' W.heap.size q.A q.c q.L := hO.owns (h.oa q hq') (fun b hb hm => hne b hb (by simpa [ob, OK.val] using hm))
      exact own_far h1 (fun e => by
        have := kind_owns h1 g e
        rw [hgk] at this
        injection this with this
        exact absurd this (by decide)) _
  · have key : ∀ j b, x.O[j]? = some b → j ≠ i → ∀ g, (OK.val ⟨A', c', L'⟩).ownBlock = some g → b.val.ownBlock ≠ some g := by
      intro j b hb hj g hg hg2
      rcases hsep g hg with e | e
      · exact pw_at h.one (fun a b hab g hg hg2 => hab g hg2 hg) hb hi hj g hg2 e
      · have := owned_lt (h.oa b (List.mem_of_getElem? hb)) g hg2
        omega
    exact pw_set h.one fun j b hb hj => ⟨key j b hb hj, fun g hg hg2 => key j b hb hj g hg2 hg⟩
/-- How many were sent. -/
theorem setSent (h : XAt W w xb x) (v : Int) : XAt W (w.setCell ⟨xb, 4, none⟩ (.int .i64 v)) xb { x with sent := v } := by
  have f := h.frame (w' := w.setCell ⟨xb, 4, none⟩ (.int .i64 v)) (s := [xb]) (Ts := [54]) ((Only.refl _ _).setIn (by simp) _) (by simpa using h.xb) (by simpa using kind_row h.hd)
  refine ⟨f.bl, (h.hd.set 4 _).congr fun o ho => ?_, h.xb, f.kr (by decide), f.ow (by decide), f.lr (by decide), f.ka (by decide) (by decide), h.kb, h.kne, f.oa (by decide), h.one, f.ma (by decide) (by decide), h.mb1, h.mb2⟩
  rcases (show o = 0 ∨ o = 1 ∨ o = 2 ∨ o = 3 ∨ o = 4 ∨ o = 5 by omega) with rfl | rfl | rfl | rfl | rfl | rfl <;> rfl
theorem setBad (h : XAt W w xb x) : XAt W (w.setCell ⟨xb, 5, none⟩ (.bool false)) xb x := by
  have f := h.frame (w' := w.setCell ⟨xb, 5, none⟩ (.bool false)) (s := [xb]) (Ts := [54]) ((Only.refl _ _).setIn (by simp) _) (by simpa using h.xb) (by simpa using kind_row h.hd)
  refine ⟨f.bl, (h.hd.set 5 _).congr fun o ho => ?_, h.xb, f.kr (by decide), f.ow (by decide), f.lr (by decide), f.ka (by decide) (by decide), h.kb, h.kne, f.oa (by decide), h.one, f.ma (by decide) (by decide), h.mb1, h.mb2⟩
  rcases (show o = 0 ∨ o = 1 ∨ o = 2 ∨ o = 3 ∨ o = 4 ∨ o = 5 by omega) with rfl | rfl | rfl | rfl | rfl | rfl <;> rfl
end XAt
end Go.Proofs.Ytdommbaljchofaa
