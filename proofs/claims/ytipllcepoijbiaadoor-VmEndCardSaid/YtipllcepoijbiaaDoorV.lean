/-
  VmEnd's plain part: a program with a stop and more behind it runs as the program alone. And rows of instructions.
-/
import Derived.Test.YtipllcepoijbiaaDoorP
import Derived.Maps.AppendAt
namespace Go.Proofs.YtipllcepoijbiaaDoor
open Go.RowKit Go.Deep
set_option linter.unusedVariables false
set_option linter.unusedSimpArgs false

def I.cells (x : I) : List Value := [.int .i64 x.o, .int .i64 x.a, .int .i64 x.b, .int .i64 x.c, .int .i64 x.d]
theorem in_len (l : List I) : (l.flatMap I.cells).length = l.length * 5 := by
  induction l with
  | nil => rfl
  | cons p l ih => rw [List.flatMap_cons, List.length_append, ih]; simp [I.cells]; omega
theorem in_cell {l : List I} {i f : Nat} {p : I} (hi : l[i]? = some p) (hf : f < 5) : (l.flatMap I.cells)[i * 5 + f]? = p.cells[f]? := by
  induction l generalizing i with
  | nil => simp at hi
  | cons q l ih =>
    rw [List.flatMap_cons]
    cases i with
    | zero =>
      simp only [List.getElem?_cons_zero, Option.some.injEq] at hi
      subst hi
      rw [List.getElem?_append_left (by simp [I.cells]; omega)]
      simp
    | succ i =>
      simp only [List.getElem?_cons_succ] at hi
      rw [List.getElem?_append_right (by simp [I.cells]; omega), ← ih hi]
      congr 1
      simp [I.cells]
      omega
theorem in_one (l : List I) : ∀ u ∈ l.flatMap I.cells, u.oneCell' = true := by
  intro u hu
  obtain ⟨p, _, hp⟩ := List.mem_flatMap.1 hu
  simp only [I.cells, List.mem_cons, List.not_mem_nil, or_false] at hp
  rcases hp with rfl | rfl | rfl | rfl | rfl <;> rfl
theorem PAt.news {w : World} {ad : Addr} {p : List I} (h : PAt w (some ad) p) : ∀ j u, (p.flatMap I.cells)[j]? = some u → w.cell? (ad.add j) = some u := by
  intro j u hj
  have hlt : j < p.length * 5 := by rw [← in_len]; exact (List.getElem?_eq_some_iff.1 hj).1
  have hi : j / 5 < p.length := by omega
  have hf : j % 5 < 5 := Nat.mod_lt _ (by decide)
  have hjj : j = j / 5 * 5 + j % 5 := by omega
  obtain ⟨x, hx⟩ := some_of_lt hi
  rw [hjj, in_cell hx hf] at hj
  obtain ⟨b, off, hA, _, c0, c1, c2, c3, c4⟩ := h _ _ hx
  injection hA with hA
  subst hA
  rw [Addr.add_lit]
  generalize j / 5 = i at *
  generalize j % 5 = f at *
  rw [hjj, ← Nat.add_assoc]
  rcases (show f = 0 ∨ f = 1 ∨ f = 2 ∨ f = 3 ∨ f = 4 by omega) with rfl | rfl | rfl | rfl | rfl <;> (injection hj with hj; subst hj; assumption)
theorem PAt.of_cells {w : World} {g : Nat} {p : List I} (hg : g < w.heap.size) (hc : ∀ j u, (p.flatMap I.cells)[j]? = some u → w.cell? ⟨g, j, none⟩ = some u) : PAt w (some ⟨g, 0, none⟩) p := by
  intro j x hx
  refine ⟨g, 0, rfl, hg, ?_, ?_, ?_, ?_, ?_⟩
  · rw [Nat.zero_add]; exact hc _ _ (in_cell (f := 0) hx (by decide))
  · rw [Nat.zero_add]; exact hc _ _ (in_cell (f := 1) hx (by decide))
  · rw [Nat.zero_add]; exact hc _ _ (in_cell (f := 2) hx (by decide))
  · rw [Nat.zero_add]; exact hc _ _ (in_cell (f := 3) hx (by decide))
  · rw [Nat.zero_add]; exact hc _ _ (in_cell (f := 4) hx (by decide))
theorem run_append_none {P : Program} {w : World} {base : Nat} {t ty e : TypeId} {i : TypeInfo} {size : Nat} (ht : P.underlying t = some (.slice e)) (hi : P.info? e = some i) (hsize : i.size = size)
    {v : Value} {n c : Nat} {xs : List Value} (hown : w.ownsRow base e size v n xs) : (Builtin.append_ #[t, t] ty #[v, .slice none 0 c]).run P w = .ok v w := by
  rcases hown.2 with ⟨rfl, rfl⟩ | ⟨g, cap, cur, rfl, hbg, hg, hnc, hcm, hcs, htake⟩
  · simp [Builtin.append_, run_underlying ht, sizeOf, typeInfo, hi, Builtin.lenOf, Builtin.firstCells]
  · simp [Builtin.append_, run_underlying ht, sizeOf, typeInfo, hi, Builtin.lenOf, Builtin.firstCells, hnc, storeCells]
theorem wpList_append_instrs {P : Program} (w : World) {ops : Array Oper} {rest : List Oper} {o : Oper} {a : Act} {Q : Exit → Act → World → Prop} (hgd : o.guard = none) (s x : Operand) (t : TypeId)
    (ho : o.op = .call { callee := .builtin .append, args := #[s, x], argTypes := #[t, t] })
    (base : Nat) (e : TypeId) (i : TypeInfo) (z : Value) (bytes : Nat) (ht : P.underlying t = some (.slice e)) (hi : P.info? e = some i) (hz : i.zero = some z)
    (hsize : i.size = 5) (hby : i.bytes = bytes) (hzs : z.cells.size = 5)
    (v : Value) (n : Nat) (xs : List Value) (hs : a.eval s = v) (hown : w.ownsRow base e 5 v n xs)
    (A : Option Addr) (c : Nat) (L : List I) (hx : a.eval x = .slice A L.length c) (hI : PAt w A L)
    (h63 : n + L.length ≤ maxLen) (hbytes : (n + L.length) * bytes ≤ 140737488355328) (hbase : base ≤ w.heap.size)
    (h : ∀ v' w', w'.ownsRow base e 5 v' (n + L.length) (xs ++ L.flatMap I.cells) → w.grownBy w' v.ownBlock → wpList P ops Q rest (a.put o.dst v') w') :
    wpList P ops Q (o :: rest) a w := by
  cases A with
  | some ad =>
    exact wpList_append_own_at w hgd s x t ho base e i z 5 bytes ht hi hz hsize hby hzs (by omega) v n xs hs hown ad L.length c (L.flatMap I.cells) hx (in_len _) hI.news (in_one _) h63 hbytes hbase (fun v' w' h1 h2 _ _ => h v' w' h1 h2)
  | none =>
    have hL : L = [] := by
      cases L with
      | nil => rfl
      | cons k L => obtain ⟨b, off, e1, _⟩ := hI 0 k rfl; cases e1
    subst hL
    have hr := run_append_none (P := P) (t := t) (ty := o.type) (c := c) ht hi hsize hown
    refine wpList_plain hgd fun K hK => ?_
    unfold Oper.wp execOp
    simp only [List.length_nil] at hx
    simp only [ho, resolve, invoke, builtin, Sem.run_bind, Sem.run_pure, Result.andThen_ok, List.map_toArray, List.map_cons, List.map_nil, hs, hx, hr]
    refine hK _ _ (h v w ?_ ⟨rfl, rfl, rfl, Nat.le_refl _, fun _ _ _ => rfl⟩)
    simpa using hown

/-! The plain law. -/
def stopI : I := ⟨15, 0, 0, 0, 0⟩
theorem still_all {p : List I} (hj : ∀ (i : Nat) (x : I), p[i]? = some x → x.o ≠ 8 ∧ x.o ≠ 9) : Still p p.length :=
  ⟨fun i x hx _ => hj i x hx, fun x hx => (by rw [List.getElem?_eq_none (Nat.le_refl _)] at hx; cases hx), Nat.le_refl _⟩
theorem still_more {p q : List I} (hj : ∀ (i : Nat) (x : I), p[i]? = some x → x.o ≠ 8 ∧ x.o ≠ 9) : Still (p ++ [stopI] ++ q) p.length := by
  refine ⟨fun i x hx hi => ?_, fun x hx => ?_, by simp⟩
  · rw [List.append_assoc, List.getElem?_append_left hi] at hx
    exact hj i x hx
  · rw [List.append_assoc, List.getElem?_append_right (Nat.le_refl _)] at hx
    simp at hx
    rw [← hx]
    rfl
theorem step_same {p q : List I} (hj : ∀ (i : Nat) (x : I), p[i]? = some x → x.o ≠ 8 ∧ x.o ≠ 9) (e : Nat → Int) (fan : Int) {s : S} (hs : s.pl ≤ p.length) : stepV (p ++ [stopI] ++ q) e fan s = stepV p e fan s := by
  by_cases h : s.pl < p.length
  · obtain ⟨x, hx⟩ := some_of_lt h
    have h1 : (p ++ [stopI] ++ q)[s.pl]? = some x := by rw [List.append_assoc, List.getElem?_append_left h]; exact hx
    simp only [stepV]
    rw [h1, hx]
    simp only
    rw [may_free ((p ++ [stopI] ++ q).length : Int) (p.length : Int) (hj _ _ hx).1 (hj _ _ hx).2]
  · have he : s.pl = p.length := by omega
    have h1 : (p ++ [stopI] ++ q)[s.pl]? = some stopI := by rw [List.append_assoc, he, List.getElem?_append_right (Nat.le_refl _)]; simp
    have h2 : p[s.pl]? = none := List.getElem?_eq_none (by omega)
    simp only [stepV]
    rw [h1, h2]
    simp only
    rw [if_neg (by intro h3; exact h3.2 rfl)]
theorem run_same {p q : List I} (hj : ∀ (i : Nat) (x : I), p[i]? = some x → x.o ≠ 8 ∧ x.o ≠ 9) (e : Nat → Int) (fan : Int) : ∀ (k : Nat) (s : S) (n : Nat), s.pl ≤ p.length → runV (p ++ [stopI] ++ q) e fan k s n = runV p e fan k s n
  | 0, s, n, _ => rfl
  | k + 1, s, n, hs => by
    simp only [runV]
    rw [step_same hj e fan hs]
    cases hst : stepV p e fan s with
    | none => rfl
    | some s' => exact run_same hj e fan k s' (n + 1) (step_pl (still_all hj) hs hst).2.1
theorem run_short {p : List I} (hj : ∀ (i : Nat) (x : I), p[i]? = some x → x.o ≠ 8 ∧ x.o ≠ 9) (e : Nat → Int) (fan : Int) : ∀ (k : Nat) (s : S) (n : Nat), s.pl ≤ p.length → (runV p e fan k s n).2 + s.pl ≤ n + p.length ∧ (runV p e fan k s n).1.L.length + n ≤ s.L.length + (runV p e fan k s n).2
  | 0, s, n, hs => by simp only [runV]; omega
  | k + 1, s, n, hs => by
    simp only [runV]
    cases hst : stepV p e fan s with
    | none => simp only; omega
    | some s' =>
      obtain ⟨h1, h2, h3⟩ := step_pl (still_all hj) hs hst
      have := run_short hj e fan k s' (n + 1) h2
      simp only
      omega
end Go.Proofs.YtipllcepoijbiaaDoor
