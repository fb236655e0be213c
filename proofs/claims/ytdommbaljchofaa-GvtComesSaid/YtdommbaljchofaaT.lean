/-
  GvtLocal: the words, and append of a list that was handed in.
-/
import Derived.Test.YtdommbaljchofaaS3
namespace Go.Proofs.Ytdommbaljchofaa
open Go.RowKit Go.Deep
set_option linter.unusedVariables false

theorem run_append_none {P : Program} {w : World} {base : Nat} {t ty e : TypeId} {i : TypeInfo} {size : Nat} (ht : P.underlying t = some (.slice e)) (hi : P.info? e = some i) (hsize : i.size = size)
    {v : Value} {n c : Nat} {xs : List Value} (hown : w.ownsRow base e size v n xs) : (Builtin.append_ #[t, t] ty #[v, .slice none 0 c]).run P w = .ok v w := by
  rcases hown.2 with ⟨rfl, rfl⟩ | ⟨g, cap, cur, rfl, hbg, hg, hnc, hcm, hcs, htake⟩
  · simp [Builtin.append_, run_underlying ht, sizeOf, typeInfo, hi, Builtin.lenOf, Builtin.firstCells]
  · simp [Builtin.append_, run_underlying ht, sizeOf, typeInfo, hi, Builtin.lenOf, Builtin.firstCells, hnc, storeCells]
theorem wpList_append_ints {P : Program} (w : World) {ops : Array Oper} {rest : List Oper} {o : Oper} {a : Act} {Q : Exit → Act → World → Prop} (hgd : o.guard = none) (s x : Operand) (t : TypeId)
    (ho : o.op = .call { callee := .builtin .append, args := #[s, x], argTypes := #[t, t] })
    (base : Nat) (e : TypeId) (i : TypeInfo) (z : Value) (bytes : Nat) (ht : P.underlying t = some (.slice e)) (hi : P.info? e = some i) (hz : i.zero = some z)
    (hsize : i.size = 1) (hby : i.bytes = bytes) (hzs : z.cells.size = 1)
    (v : Value) (n : Nat) (xs : List Value) (hs : a.eval s = v) (hown : w.ownsRow base e 1 v n xs)
    (A : Option Addr) (c : Nat) (L : List Int) (hx : a.eval x = .slice A L.length c) (hI : IntsAt w A L)
    (h63 : n + L.length ≤ maxLen) (hbytes : (n + L.length) * bytes ≤ 140737488355328) (hbase : base ≤ w.heap.size)
    (h : ∀ v' w', w'.ownsRow base e 1 v' (n + L.length) (xs ++ L.map fun k => .int .i64 k) → w.grownBy w' v.ownBlock → wpList P ops Q rest (a.put o.dst v') w') :
    wpList P ops Q (o :: rest) a w := by
  cases A with
  | some ad =>
    refine wpList_append_own_at w hgd s x t ho base e i z 1 bytes ht hi hz hsize hby hzs (by omega) v n xs hs hown ad L.length c (L.map fun k => .int .i64 k) hx (by simp) ?_ ?_ h63 hbytes hbase (fun v' w' h1 h2 _ _ => h v' w' h1 h2)
    · intro j u hj
      obtain ⟨hj', hu⟩ := List.getElem?_eq_some_iff.1 hj
      simp only [List.length_map] at hj'
      obtain ⟨b, off, e1, _, hc⟩ := hI j hj'
      injection e1 with e1
      subst e1
      rw [← hu]
      rw [Addr.add_lit, List.getElem_map]
      exact hc
    · intro u hu
      obtain ⟨_, _, rfl⟩ := List.mem_map.1 hu
      rfl
  | none =>
    have hL : L = [] := by
      cases L with
      | nil => rfl
      | cons k L => obtain ⟨b, off, e1, _⟩ := hI 0 (by simp); cases e1
    subst hL
    have hr := run_append_none (P := P) (t := t) (ty := o.type) (c := c) ht hi hsize hown
    refine wpList_plain hgd fun K hK => ?_
    unfold Oper.wp execOp
    simp only [List.length_nil] at hx
    simp only [ho, resolve, invoke, builtin, Sem.run_bind, Sem.run_pure, Result.andThen_ok, List.map_toArray, List.map_cons, List.map_nil, hs, hx, hr]
    refine hK _ _ (h v w ?_ ⟨rfl, rfl, rfl, Nat.le_refl _, fun _ _ _ => rfl⟩)
    simpa using hown

/-- At a round's head: two workers and the reference's, which is asked twice. -/
structure LM (W w : World) (wa ma na wb mb nb rb : Nat) (A1 A2 : Option Addr) (c1 c2 : Nat) (s u t : WS) : Prop where
  a : WAt w wa ma na s.rd s.lo s.M
  b : WAt w wb mb nb u.rd u.lo u.M
  r : RAt w W.heap.size rb A1 A2 c1 c2 t.rd t.lo t.M
  bl : Below W.heap.size W w
  b1 : W.heap.size ≤ wa
  b2 : W.heap.size ≤ ma
  b3 : W.heap.size ≤ wb
  b4 : W.heap.size ≤ mb
  b5 : W.heap.size ≤ rb
  n1 : wa ≠ wb
  n2 : wa ≠ mb
  n3 : ma ≠ wb
  n4 : ma ≠ mb
namespace LM
variable {W w w' : World} {wa ma na na' wb mb nb nb' rb : Nat} {A1 A2 A1' A2' : Option Addr} {c1 c2 c1' c2' : Nat} {s t u s' t' u' : WS}
theorem quiet (h : LM W w wa ma na wb mb nb rb A1 A2 c1 c2 s u t) (k : Only [] w w') : LM W w' wa ma na wb mb nb rb A1 A2 c1 c2 s u t :=
  ⟨h.a.only0 k, h.b.only0 k, h.r.only0 k, Only.to_below h.bl k (by simp) h.bl.size, h.b1, h.b2, h.b3, h.b4, h.b5, h.n1, h.n2, h.n3, h.n4⟩
theorem stepA (h : LM W w wa ma na wb mb nb rb A1 A2 c1 c2 s u t) (ha : WAt w' wa ma na' s'.rd s'.lo s'.M) (hr : RAt w' W.heap.size rb A1' A2' c1' c2' t'.rd t'.lo t'.M) (k : Only (wa :: ma :: fp rb A1 A2 t.M.length c1 c2) w w') : LM W w' wa ma na' wb mb nb rb A1' A2' c1' c2' s' u t' := by
  have h1 := apart h.b h.r
  have e1 := h.n1
  have e2 := h.n2
  have e3 := h.n3
  have e4 := h.n4
  refine ⟨ha, h.b.only k (by simp only [List.mem_cons, not_or]; exact ⟨by omega, by omega, h1.1⟩) (by simp only [List.mem_cons, not_or]; exact ⟨by omega, by omega, h1.2⟩), hr, Only.to_below h.bl k ?_ h.bl.size, h.b1, h.b2, h.b3, h.b4, h.b5, h.n1, h.n2, h.n3, h.n4⟩
  intro i hi
  simp only [List.mem_cons] at hi
  rcases hi with rfl | rfl | hi
  · exact h.b1
  · exact h.b2
  · exact h.r.fp_ge h.b5 i hi
theorem stepB (h : LM W w wa ma na wb mb nb rb A1 A2 c1 c2 s u t) (hb : WAt w' wb mb nb' u'.rd u'.lo u'.M) (hr : RAt w' W.heap.size rb A1' A2' c1' c2' t'.rd t'.lo t'.M) (k : Only (wb :: mb :: fp rb A1 A2 t.M.length c1 c2) w w') : LM W w' wa ma na wb mb nb' rb A1' A2' c1' c2' s u' t' := by
  have h1 := apart h.a h.r
  have e1 := h.n1
  have e2 := h.n2
  have e3 := h.n3
  have e4 := h.n4
  refine ⟨h.a.only k (by simp only [List.mem_cons, not_or]; exact ⟨by omega, by omega, h1.1⟩) (by simp only [List.mem_cons, not_or]; exact ⟨by omega, by omega, h1.2⟩), hb, hr, Only.to_below h.bl k ?_ h.bl.size, h.b1, h.b2, h.b3, h.b4, h.b5, h.n1, h.n2, h.n3, h.n4⟩
  intro i hi
  simp only [List.mem_cons] at hi
  rcases hi with rfl | rfl | hi
  · exact h.b3
  · exact h.b4
  · exact h.r.fp_ge h.b5 i hi
theorem start {w1 : World} (hA : WAt w wa ma 0 0 Never []) (hb : Below W.heap.size W w) (b1 : W.heap.size ≤ wa) (b2 : W.heap.size ≤ ma) (hB : WAt w1 wb mb 0 0 Never []) (hb2 : Below w.heap.size w w1) (b3 : w.heap.size ≤ wb) (b4 : w.heap.size ≤ mb) :
    LM W (w1.alloc (.cells #[.slice none 0 0, .slice none 0 0, .int .i64 0, .int .i64 1073741825] 30)) wa ma 0 wb mb 0 w1.heap.size none none 0 0 ⟨0, Never, []⟩ ⟨0, Never, []⟩ ⟨0, Never, []⟩ := by
  have l1 := hA.lt
  have l2 := hA.lt2
  have l0 := hb.size
  have h1 : Below W.heap.size W w1 := hb.trans (hb2.mono hb.size)
  refine ⟨(hA.only0 (Only.of_below hb2 [])).only0 ((Only.refl _ _).alloc _), hB.only0 ((Only.refl _ _).alloc _), ⟨?_, OwnsI.nil _ _, OwnsI.nil _ _, by simp [Value.ownBlock]⟩, h1.alloc h1.size _, b1, b2, by omega, by omega, h1.size, by omega, by omega, by omega, by omega⟩
  exact World.rowIs_alloc w1 #[.slice none 0 0, .slice none 0 0, .int .i64 0, .int .i64 1073741825] 30 (rwF none none 0 0 0 0 Never) (by
    intro i hi
    simp at hi
    rcases (show i = 0 ∨ i = 1 ∨ i = 2 ∨ i = 3 by omega) with rfl | rfl | rfl | rfl <;> rfl)
end LM

/-! The plain laws. -/
theorem startCode_next (rd : Int) (L : List Int) : startCode rd (rd + 1) L = 0 ∨ startCode rd (rd + 1) L = 10 := by
  unfold startCode
  rw [if_pos rfl]
  split
  · exact .inl rfl
  · exact .inr rfl
theorem startRes_bad {M : List (Int × Int)} {rd lo round : Int} {L : List Int} (h : startCode rd round L ≠ 0) : startRes M rd lo round L = 0 := by
  simp only [startRes]
  rw [if_neg h]
theorem startCode_app {rd round : Int} {L K : List Int} (h : startCode rd round (L ++ K) = 0) : startCode rd round L = 0 := by
  simp only [startCode] at h ⊢
  split at h
  · rename_i e
    rw [if_pos e]
    split at h
    · rename_i hall
      rw [if_pos (fun x hx => hall x (by simp [hx]))]
    · omega
  · omega
theorem foldl_min_le2 (L : List Int) : ∀ a, L.foldl min a ≤ a := by
  induction L with
  | nil => intro a; exact Int.le_refl _
  | cons x L ih =>
    intro a
    have := ih (min a x)
    simp only [List.foldl_cons]
    omega
theorem startRes_app {M : List (Int × Int)} {rd lo round : Int} {L K : List Int} (h : startCode rd round (L ++ K) = 0) : startRes M rd lo round (L ++ K) = K.foldl min (startRes M rd lo round L) := by
  have h2 := startCode_app h
  simp only [startRes]
  rw [if_pos h, if_pos h2, List.foldl_append, ← foldl_min]
theorem startRes_open {M : List (Int × Int)} {rd lo round : Int} {L : List Int} (h : startCode rd round L = 0) : startRes M rd lo round L ≤ leastOf (M.map (·.2)) := by
  simp only [startRes]
  rw [if_pos h]
  have := foldl_min_le2 L (leastOf (M.map (·.2)))
  omega
end Go.Proofs.Ytdommbaljchofaa
