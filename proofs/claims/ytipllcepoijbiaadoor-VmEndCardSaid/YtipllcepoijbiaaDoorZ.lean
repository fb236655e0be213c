/-
  VmEnd, as it runs.
-/
import Derived.Test.YtipllcepoijbiaaDoorV
import Derived.Deep.DeepCutAuto
namespace Go.Proofs.YtipllcepoijbiaaDoor
open Go.RowKit Go.Deep
set_option linter.unusedVariables false
set_option linter.unusedSimpArgs false
theorem info33 : (Tryd.prog.info? 33).map (fun i => (i.zero, i.size, i.bytes)) = some (some (.agg #[.int .i64 0, .int .i64 0, .int .i64 0, .int .i64 0, .int .i64 0]), 5, 40) := by kernel_rfl
theorem Only.grown_new {a w w' : World} {v : Value} (h : Only [] a w) (hg : w.grownBy w' v.ownBlock) (hv : ∀ k, v.ownBlock = some k → a.heap.size ≤ k) : Only [] a w' :=
  ⟨hg.os.trans h.os, hg.tape.trans h.tape, hg.output.trans h.output, Nat.le_trans h.size hg.size, fun i hi hn => (hg.block i (Nat.lt_of_lt_of_le hi h.size) (fun e => by have := hv i e.symm; omega)).trans (h.block i hi hn)⟩
theorem Below.owns {B : Nat} {w w' : World} {base : Nat} {e : TypeId} {size : Nat} {v : Value} {n : Nat} {xs : List Value} (k : Below B w w') (h : w.ownsRow base e size v n xs) (hlt : ∀ i, v.ownBlock = some i → i < B) : w'.ownsRow base e size v n xs := by
  refine ⟨h.1, ?_⟩
  rcases h.2 with h0 | ⟨g, cap, cur, rfl, hg, hc, rest⟩
  · exact .inl h0
  · exact .inr ⟨g, cap, cur, rfl, hg, (k.block g (hlt g rfl)).trans hc, rest⟩
theorem und22 : Tryd.prog.underlying 22 = some (.slice 33) := by kernel_rfl
/-- What a run gives, in one word. -/
def RunPost (w : World) (t0 t1 t2 t3 : Int) (L : List Em) (k : Nat) : Ending → World → Prop := fun r w' =>
  ∃ A c, r = .returned (.tuple #[.agg #[.int .i64 t0, .int .i64 t1, .int .i64 t2, .int .i64 t3], .slice A L.length c, .int .i64 (k : Int)]) ∧ w'.ownsRow w.heap.size 38 4 (.slice A L.length c) L.length (L.flatMap Em.cells) ∧ Below w.heap.size w w'
theorem run_prog {w : World} {A : Option Addr} {cap K : Nat} {p : List I} {s e : Nat → Int} {fan : Int} (hT : TabAt w) (hP : PAt w A p) (hA : ∀ a, A = some a → a.block < w.heap.size ∧ p.length ≤ cap) (hN : A = none → cap = 0) (hn : p.length ≤ 64) (hK : Still p K) :
    Calls Tryd.prog 6 #[.slice A p.length cap, .agg #[.int .i64 (s 0), .int .i64 (s 1), .int .i64 (s 2), .int .i64 (s 3)], .agg #[.int .i64 (e 0), .int .i64 (e 1), .int .i64 (e 2), .int .i64 (e 3), .int .i64 (e 4), .int .i64 (e 5), .int .i64 (e 6)], .int .i64 1024, .int .i64 fan] w (RunPost w ((runV p e fan 1024 ⟨csOf s, 0, []⟩ 0).1.cs 0) ((runV p e fan 1024 ⟨csOf s, 0, []⟩ 0).1.cs 1) ((runV p e fan 1024 ⟨csOf s, 0, []⟩ 0).1.cs 2) ((runV p e fan 1024 ⟨csOf s, 0, []⟩ 0).1.cs 3) (runV p e fan 1024 ⟨csOf s, 0, []⟩ 0).1.L (runV p e fan 1024 ⟨csOf s, 0, []⟩ 0).2) := by
  have key : ∀ {P : Ending → World → Prop}, (Calls Tryd.prog 6 #[.slice A p.length cap, .agg #[.int .i64 (s 0), .int .i64 (s 1), .int .i64 (s 2), .int .i64 (s 3)], .agg #[.int .i64 (e 0), .int .i64 (e 1), .int .i64 (e 2), .int .i64 (e 3), .int .i64 (e 4), .int .i64 (e 5), .int .i64 (e 6)], .int .i64 1024, .int .i64 fan] w fun r w' =>
      ∃ sv, r = .returned (.tuple #[.agg #[.int .i64 ((runV p e fan (min (1024 : Int) 1024).toNat ⟨csOf s, 0, []⟩ 0).1.cs 0), .int .i64 ((runV p e fan (min (1024 : Int) 1024).toNat ⟨csOf s, 0, []⟩ 0).1.cs 1), .int .i64 ((runV p e fan (min (1024 : Int) 1024).toNat ⟨csOf s, 0, []⟩ 0).1.cs 2), .int .i64 ((runV p e fan (min (1024 : Int) 1024).toNat ⟨csOf s, 0, []⟩ 0).1.cs 3)], sv, .int .i64 ((runV p e fan (min (1024 : Int) 1024).toNat ⟨csOf s, 0, []⟩ 0).2 : Int)]) ∧
        w'.ownsRow w.heap.size 38 4 sv (runV p e fan (min (1024 : Int) 1024).toNat ⟨csOf s, 0, []⟩ 0).1.L.length ((runV p e fan (min (1024 : Int) 1024).toNat ⟨csOf s, 0, []⟩ 0).1.L.flatMap Em.cells) ∧ Below w.heap.size w w') →
      Calls Tryd.prog 6 #[.slice A p.length cap, .agg #[.int .i64 (s 0), .int .i64 (s 1), .int .i64 (s 2), .int .i64 (s 3)], .agg #[.int .i64 (e 0), .int .i64 (e 1), .int .i64 (e 2), .int .i64 (e 3), .int .i64 (e 4), .int .i64 (e 5), .int .i64 (e 6)], .int .i64 1024, .int .i64 fan] w (RunPost w ((runV p e fan 1024 ⟨csOf s, 0, []⟩ 0).1.cs 0) ((runV p e fan 1024 ⟨csOf s, 0, []⟩ 0).1.cs 1) ((runV p e fan 1024 ⟨csOf s, 0, []⟩ 0).1.cs 2) ((runV p e fan 1024 ⟨csOf s, 0, []⟩ 0).1.cs 3) (runV p e fan 1024 ⟨csOf s, 0, []⟩ 0).1.L (runV p e fan 1024 ⟨csOf s, 0, []⟩ 0).2) := by
    intro _ h
    refine h.mono ?_
    rw [show (min (1024 : Int) 1024).toNat = 1024 from rfl]
    rintro r w' ⟨sv, hr, ho, hb⟩
    obtain ⟨B, c, rfl⟩ := owns_form ho
    exact ⟨B, c, hr, ho, hb⟩
  refine key (P := fun _ _ => True) ?_
  cases A with
  | none =>
    have hp : p = [] := by
      cases p with
      | nil => rfl
      | cons x p => obtain ⟨b, off, h, _⟩ := hP 0 x rfl; cases h
    have hc := hN rfl
    subst hp hc
    exact run_le (fun W hW => new_nil (hT.only hW (by simp)) rfl) (by simp) hK (by decide)
  | some a =>
    obtain ⟨h1, h2⟩ := hA a rfl
    exact run_le (fun W hW => new_some (hT.only hW (by simp)) (Nat.lt_of_lt_of_le h1 hW.size) rfl hn h2 (hP.only hW (fun _ _ => by simp))) (by omega) hK (by decide)
set_option maxRecDepth 100000 in
set_option maxHeartbeats 16000000 in
theorem end_many1 {w : World} {A A2 : Option Addr} {cap cap2 : Nat} {p q : List I} {s e : Nat → Int} {fan : Int} (hT : TabAt w) (h1 : 30 < p.length) :
    Calls Tryd.prog 3 #[.agg #[.slice A p.length cap, .int .i64 (s 0), .int .i64 (s 1), .int .i64 (s 2), .int .i64 (s 3), .int .i64 (e 0), .int .i64 (e 1), .int .i64 (e 2), .int .i64 (e 3), .int .i64 (e 4), .int .i64 (e 5), .int .i64 (e 6), .int .i64 fan], .slice A2 q.length cap2] w fun r w' => r = .returned (.bool true) ∧ Below w.heap.size w w' := by
  obtain ⟨n, hn⟩ : ∃ n, p.length = n := ⟨_, rfl⟩
  obtain ⟨n2, hn2⟩ : ∃ n, q.length = n := ⟨_, rfl⟩
  obtain ⟨s0, hs0⟩ : ∃ x, s 0 = x := ⟨_, rfl⟩
  obtain ⟨s1, hs1⟩ : ∃ x, s 1 = x := ⟨_, rfl⟩
  obtain ⟨s2, hs2⟩ : ∃ x, s 2 = x := ⟨_, rfl⟩
  obtain ⟨s3, hs3⟩ : ∃ x, s 3 = x := ⟨_, rfl⟩
  obtain ⟨e0, he0⟩ : ∃ x, e 0 = x := ⟨_, rfl⟩
  obtain ⟨e1, he1⟩ : ∃ x, e 1 = x := ⟨_, rfl⟩
  obtain ⟨e2, he2⟩ : ∃ x, e 2 = x := ⟨_, rfl⟩
  obtain ⟨e3, he3⟩ : ∃ x, e 3 = x := ⟨_, rfl⟩
  obtain ⟨e4, he4⟩ : ∃ x, e 4 = x := ⟨_, rfl⟩
  obtain ⟨e5, he5⟩ : ∃ x, e 5 = x := ⟨_, rfl⟩
  obtain ⟨e6, he6⟩ : ∃ x, e 6 = x := ⟨_, rfl⟩
  have HT := hide hT
  simp only [hn, hn2, hs0, hs1, hs2, hs3, he0, he1, he2, he3, he4, he5, he6] at *
  have d1 : decide ((30 : Int) < (n : Int)) = true := by simp; omega
  clear hT
  have HAW := hide (awake_any ((unhide HT).only ((Only.refl [] w).alloc (Obj.cells #[Value.slice A n cap, Value.int IntKind.i64 s0, Value.int IntKind.i64 s1, Value.int IntKind.i64 s2, Value.int IntKind.i64 s3, Value.int IntKind.i64 e0, Value.int IntKind.i64 e1, Value.int IntKind.i64 e2, Value.int IntKind.i64 e3, Value.int IntKind.i64 e4, Value.int IntKind.i64 e5, Value.int IntKind.i64 e6, Value.int IntKind.i64 fan] 30)) (by simp)))
  clear hn hn2 hs0 hs1 hs2 hs3 he0 he1 he2 he3 he4 he5 he6
  go_enter Tryd.func3, Tryd.ntmps3
  go_wp2_with (first | (go_at_call 5; refine (unhide HAW).mono ?_; rintro _ W5 ⟨rfl, hb5⟩; have HB5 := hide hb5; clear hb5))
  go_ret
  exact ⟨rfl, ((Only.refl [] w).alloc _).nil_below.trans ((unhide HB5).mono (by simp))⟩
set_option maxRecDepth 100000 in
set_option maxHeartbeats 16000000 in
theorem end_many2 {w : World} {A A2 : Option Addr} {cap cap2 : Nat} {p q : List I} {s e : Nat → Int} {fan : Int} (hT : TabAt w) (h1 : p.length ≤ 30) (h2 : 30 < q.length) :
    Calls Tryd.prog 3 #[.agg #[.slice A p.length cap, .int .i64 (s 0), .int .i64 (s 1), .int .i64 (s 2), .int .i64 (s 3), .int .i64 (e 0), .int .i64 (e 1), .int .i64 (e 2), .int .i64 (e 3), .int .i64 (e 4), .int .i64 (e 5), .int .i64 (e 6), .int .i64 fan], .slice A2 q.length cap2] w fun r w' => r = .returned (.bool true) ∧ Below w.heap.size w w' := by
  obtain ⟨n, hn⟩ : ∃ n, p.length = n := ⟨_, rfl⟩
  obtain ⟨n2, hn2⟩ : ∃ n, q.length = n := ⟨_, rfl⟩
  obtain ⟨s0, hs0⟩ : ∃ x, s 0 = x := ⟨_, rfl⟩
  obtain ⟨s1, hs1⟩ : ∃ x, s 1 = x := ⟨_, rfl⟩
  obtain ⟨s2, hs2⟩ : ∃ x, s 2 = x := ⟨_, rfl⟩
  obtain ⟨s3, hs3⟩ : ∃ x, s 3 = x := ⟨_, rfl⟩
  obtain ⟨e0, he0⟩ : ∃ x, e 0 = x := ⟨_, rfl⟩
  obtain ⟨e1, he1⟩ : ∃ x, e 1 = x := ⟨_, rfl⟩
  obtain ⟨e2, he2⟩ : ∃ x, e 2 = x := ⟨_, rfl⟩
  obtain ⟨e3, he3⟩ : ∃ x, e 3 = x := ⟨_, rfl⟩
  obtain ⟨e4, he4⟩ : ∃ x, e 4 = x := ⟨_, rfl⟩
  obtain ⟨e5, he5⟩ : ∃ x, e 5 = x := ⟨_, rfl⟩
  obtain ⟨e6, he6⟩ : ∃ x, e 6 = x := ⟨_, rfl⟩
  have HT := hide hT
  simp only [hn, hn2, hs0, hs1, hs2, hs3, he0, he1, he2, he3, he4, he5, he6] at *
  have d1 : decide ((30 : Int) < (n : Int)) = false := by simp; omega
  have d2 : decide ((30 : Int) < (n2 : Int)) = true := by simp; omega
  clear hT
  have HAW := hide (awake_any ((unhide HT).only ((Only.refl [] w).alloc (Obj.cells #[Value.slice A n cap, Value.int IntKind.i64 s0, Value.int IntKind.i64 s1, Value.int IntKind.i64 s2, Value.int IntKind.i64 s3, Value.int IntKind.i64 e0, Value.int IntKind.i64 e1, Value.int IntKind.i64 e2, Value.int IntKind.i64 e3, Value.int IntKind.i64 e4, Value.int IntKind.i64 e5, Value.int IntKind.i64 e6, Value.int IntKind.i64 fan] 30)) (by simp)))
  clear hn hn2 hs0 hs1 hs2 hs3 he0 he1 he2 he3 he4 he5 he6
  go_enter Tryd.func3, Tryd.ntmps3
  go_wp2_with (first | (go_at_call 5; refine (unhide HAW).mono ?_; rintro _ W5 ⟨rfl, hb5⟩; have HB5 := hide hb5; clear hb5))
  go_ret
  exact ⟨rfl, ((Only.refl [] w).alloc _).nil_below.trans ((unhide HB5).mono (by simp))⟩
set_option maxRecDepth 100000 in
set_option maxHeartbeats 16000000 in
theorem end_many3 {w : World} {A A2 : Option Addr} {cap cap2 : Nat} {p q : List I} {s e : Nat → Int} {fan : Int} (hT : TabAt w) (h1 : p.length ≤ 30) (h2 : q.length ≤ 30) (h3 : 2000 < fan) :
    Calls Tryd.prog 3 #[.agg #[.slice A p.length cap, .int .i64 (s 0), .int .i64 (s 1), .int .i64 (s 2), .int .i64 (s 3), .int .i64 (e 0), .int .i64 (e 1), .int .i64 (e 2), .int .i64 (e 3), .int .i64 (e 4), .int .i64 (e 5), .int .i64 (e 6), .int .i64 fan], .slice A2 q.length cap2] w fun r w' => r = .returned (.bool true) ∧ Below w.heap.size w w' := by
  obtain ⟨n, hn⟩ : ∃ n, p.length = n := ⟨_, rfl⟩
  obtain ⟨n2, hn2⟩ : ∃ n, q.length = n := ⟨_, rfl⟩
  obtain ⟨s0, hs0⟩ : ∃ x, s 0 = x := ⟨_, rfl⟩
  obtain ⟨s1, hs1⟩ : ∃ x, s 1 = x := ⟨_, rfl⟩
  obtain ⟨s2, hs2⟩ : ∃ x, s 2 = x := ⟨_, rfl⟩
  obtain ⟨s3, hs3⟩ : ∃ x, s 3 = x := ⟨_, rfl⟩
  obtain ⟨e0, he0⟩ : ∃ x, e 0 = x := ⟨_, rfl⟩
  obtain ⟨e1, he1⟩ : ∃ x, e 1 = x := ⟨_, rfl⟩
  obtain ⟨e2, he2⟩ : ∃ x, e 2 = x := ⟨_, rfl⟩
  obtain ⟨e3, he3⟩ : ∃ x, e 3 = x := ⟨_, rfl⟩
  obtain ⟨e4, he4⟩ : ∃ x, e 4 = x := ⟨_, rfl⟩
  obtain ⟨e5, he5⟩ : ∃ x, e 5 = x := ⟨_, rfl⟩
  obtain ⟨e6, he6⟩ : ∃ x, e 6 = x := ⟨_, rfl⟩
  have HT := hide hT
  simp only [hn, hn2, hs0, hs1, hs2, hs3, he0, he1, he2, he3, he4, he5, he6] at *
  have d1 : decide ((30 : Int) < (n : Int)) = false := by simp; omega
  have d2 : decide ((30 : Int) < (n2 : Int)) = false := by simp; omega
  have d3 : decide ((2000 : Int) < fan) = true := by simpa using h3
  clear hT
  have HAW := hide (awake_any ((unhide HT).only ((Only.refl [] w).alloc (Obj.cells #[Value.slice A n cap, Value.int IntKind.i64 s0, Value.int IntKind.i64 s1, Value.int IntKind.i64 s2, Value.int IntKind.i64 s3, Value.int IntKind.i64 e0, Value.int IntKind.i64 e1, Value.int IntKind.i64 e2, Value.int IntKind.i64 e3, Value.int IntKind.i64 e4, Value.int IntKind.i64 e5, Value.int IntKind.i64 e6, Value.int IntKind.i64 fan] 30)) (by simp)))
  clear hn hn2 hs0 hs1 hs2 hs3 he0 he1 he2 he3 he4 he5 he6
  go_enter Tryd.func3, Tryd.ntmps3
  go_wp2_with (first | (go_at_call 5; refine (unhide HAW).mono ?_; rintro _ W5 ⟨rfl, hb5⟩; have HB5 := hide hb5; clear hb5))
  go_ret
  exact ⟨rfl, ((Only.refl [] w).alloc _).nil_below.trans ((unhide HB5).mono (by simp))⟩
set_option maxRecDepth 100000 in
set_option maxHeartbeats 16000000 in
theorem end_walk {w : World} {A A2 : Option Addr} {cap cap2 : Nat} {p q : List I} {s e : Nat → Int} {fan : Int} (hT : TabAt w) (hP : PAt w A p) (hA : ∀ a, A = some a → a.block < w.heap.size ∧ p.length ≤ cap) (hN : A = none → cap = 0) (hQ : PAt w A2 q) (hQA : ∀ a, A2 = some a → a.block < w.heap.size) (h1 : p.length ≤ 30) (h2 : q.length ≤ 30) (h3 : fan ≤ 2000) :
    Calls Tryd.prog 3 #[.agg #[.slice A p.length cap, .int .i64 (s 0), .int .i64 (s 1), .int .i64 (s 2), .int .i64 (s 3), .int .i64 (e 0), .int .i64 (e 1), .int .i64 (e 2), .int .i64 (e 3), .int .i64 (e 4), .int .i64 (e 5), .int .i64 (e 6), .int .i64 fan], .slice A2 q.length cap2] w fun r w' => r = .returned (.bool true) ∧ Below w.heap.size w w' := by
  obtain ⟨n, hn⟩ : ∃ n, p.length = n := ⟨_, rfl⟩
  obtain ⟨n2, hn2⟩ : ∃ n, q.length = n := ⟨_, rfl⟩
  obtain ⟨s0, hs0⟩ : ∃ x, s 0 = x := ⟨_, rfl⟩
  obtain ⟨s1, hs1⟩ : ∃ x, s 1 = x := ⟨_, rfl⟩
  obtain ⟨s2, hs2⟩ : ∃ x, s 2 = x := ⟨_, rfl⟩
  obtain ⟨s3, hs3⟩ : ∃ x, s 3 = x := ⟨_, rfl⟩
  obtain ⟨e0, he0⟩ : ∃ x, e 0 = x := ⟨_, rfl⟩
  obtain ⟨e1, he1⟩ : ∃ x, e 1 = x := ⟨_, rfl⟩
  obtain ⟨e2, he2⟩ : ∃ x, e 2 = x := ⟨_, rfl⟩
  obtain ⟨e3, he3⟩ : ∃ x, e 3 = x := ⟨_, rfl⟩
  obtain ⟨e4, he4⟩ : ∃ x, e 4 = x := ⟨_, rfl⟩
  obtain ⟨e5, he5⟩ : ∃ x, e 5 = x := ⟨_, rfl⟩
  obtain ⟨e6, he6⟩ : ∃ x, e 6 = x := ⟨_, rfl⟩
  have HT := hide hT
  have HP := hide hP
  have HA := hide hA
  have HNN := hide hN
  have HQ := hide hQ
  have HQA := hide hQA
  have HN := hide hn
  have HN2 := hide hn2
  have hlq : (p ++ [stopI] ++ q).length = n + 1 + n2 := by simp; omega
  have HLQ := hide hlq
  obtain ⟨t0, ht0⟩ : ∃ x, (runV p e fan 1024 ⟨csOf s, 0, []⟩ 0).1.cs 0 = x := ⟨_, rfl⟩
  obtain ⟨t1, ht1⟩ : ∃ x, (runV p e fan 1024 ⟨csOf s, 0, []⟩ 0).1.cs 1 = x := ⟨_, rfl⟩
  obtain ⟨t2, ht2⟩ : ∃ x, (runV p e fan 1024 ⟨csOf s, 0, []⟩ 0).1.cs 2 = x := ⟨_, rfl⟩
  obtain ⟨t3, ht3⟩ : ∃ x, (runV p e fan 1024 ⟨csOf s, 0, []⟩ 0).1.cs 3 = x := ⟨_, rfl⟩
  obtain ⟨L, hL⟩ : ∃ x, (runV p e fan 1024 ⟨csOf s, 0, []⟩ 0).1.L = x := ⟨_, rfl⟩
  obtain ⟨k, hk⟩ : ∃ x, (runV p e fan 1024 ⟨csOf s, 0, []⟩ 0).2 = x := ⟨_, rfl⟩
  have HRP := fun W K t a b c => run_prog (w := W) (A := A) (cap := cap) (K := K) (p := p) (s := s) (e := e) (fan := fan) t a b hN (by omega) c
  simp only [ht0, ht1, ht2, ht3, hL, hk] at HRP
  have HRQ : ∀ (W : World) (g c : Nat), (∀ (i : Nat) (x : I), p[i]? = some x → x.o ≠ 8 ∧ x.o ≠ 9) → TabAt W → PAt W (some ⟨g, 0, none⟩) (p ++ [stopI] ++ q) → g < W.heap.size → (p ++ [stopI] ++ q).length ≤ c →
      Calls Tryd.prog 6 #[.slice (some ⟨g, 0, none⟩) (p ++ [stopI] ++ q).length c, .agg #[.int .i64 (s 0), .int .i64 (s 1), .int .i64 (s 2), .int .i64 (s 3)], .agg #[.int .i64 (e 0), .int .i64 (e 1), .int .i64 (e 2), .int .i64 (e 3), .int .i64 (e 4), .int .i64 (e 5), .int .i64 (e 6)], .int .i64 1024, .int .i64 fan] W (RunPost W t0 t1 t2 t3 L k) := by
    intro W g c hj t a b hc
    have h' := run_prog (w := W) (A := some ⟨g, 0, none⟩) (cap := c) (K := p.length) (p := p ++ [stopI] ++ q) (s := s) (e := e) (fan := fan) t a (fun a' ha' => by injection ha' with ha'; subst ha'; exact ⟨b, hc⟩) (fun h => by cases h) (by rw [hlq]; omega) (still_more hj)
    rw [run_same hj e fan 1024 ⟨csOf s, 0, []⟩ 0 (Nat.zero_le _)] at h'
    simp only [ht0, ht1, ht2, ht3, hL, hk] at h'
    exact h'
  have HSHORT : (∀ (i : Nat) (x : I), p[i]? = some x → x.o ≠ 8 ∧ x.o ≠ 9) → k ≤ n ∧ L.length ≤ k := by
    intro hj
    have h' := run_short hj e fan 1024 ⟨csOf s, 0, []⟩ 0 (Nat.zero_le _)
    rw [hL, hk] at h'
    simp only [List.length_nil] at h'
    omega
  simp only [hs0, hs1, hs2, hs3, he0, he1, he2, he3, he4, he5, he6, hn, hlq] at HRP HRQ h1 h2 ⊢
  simp only [hn2] at h2 ⊢
  replace HRP := hide HRP
  replace HRQ := hide HRQ
  replace HSHORT := hide HSHORT
  have d1 : decide ((30 : Int) < (n : Int)) = false := by simp; omega
  have d2 : decide ((30 : Int) < (n2 : Int)) = false := by simp; omega
  have d3 : decide ((2000 : Int) < fan) = false := by simp; omega
  clear hT hP hA hN hQ hQA hn hn2 hlq ht0 ht1 ht2 ht3 hL hk hs0 hs1 hs2 hs3 he0 he1 he2 he3 he4 he5 he6
  go_enter Tryd.func3, Tryd.ntmps3
  go_upto_region 3 with fail
  obtain ⟨W0, hW0⟩ : ∃ W, w.alloc (Obj.cells #[Value.slice A n cap, Value.int IntKind.i64 s0, Value.int IntKind.i64 s1, Value.int IntKind.i64 s2, Value.int IntKind.i64 s3, Value.int IntKind.i64 e0, Value.int IntKind.i64 e1, Value.int IntKind.i64 e2, Value.int IntKind.i64 e3, Value.int IntKind.i64 e4, Value.int IntKind.i64 e5, Value.int IntKind.i64 e6, Value.int IntKind.i64 fan] 30) = W := ⟨_, rfl⟩
  have hO0 : Only [] w W0 := by rw [← hW0]; exact (Only.refl [] w).alloc _
  have hs0 : W0.heap.size = w.heap.size + 1 := by rw [← hW0]; simp
  have hc : ∀ q v, (#[Value.slice A n cap, Value.int IntKind.i64 s0, Value.int IntKind.i64 s1, Value.int IntKind.i64 s2, Value.int IntKind.i64 s3, Value.int IntKind.i64 e0, Value.int IntKind.i64 e1, Value.int IntKind.i64 e2, Value.int IntKind.i64 e3, Value.int IntKind.i64 e4, Value.int IntKind.i64 e5, Value.int IntKind.i64 e6, Value.int IntKind.i64 fan] : Array Value)[q]? = some v → W0.cell? ⟨w.heap.size, q, none⟩ = some v := fun q v hq => by
    rw [← hW0]
    exact (cell_of_row (w.alloc (Obj.cells #[Value.slice A n cap, Value.int IntKind.i64 s0, Value.int IntKind.i64 s1, Value.int IntKind.i64 s2, Value.int IntKind.i64 s3, Value.int IntKind.i64 e0, Value.int IntKind.i64 e1, Value.int IntKind.i64 e2, Value.int IntKind.i64 e3, Value.int IntKind.i64 e4, Value.int IntKind.i64 e5, Value.int IntKind.i64 e6, Value.int IntKind.i64 fan] 30)) w.heap.size q _ 30 (0, 0) (heap_alloc_last w _)).trans hq
  rw [hW0]
  have k0 := hc 0 _ rfl
  have hcl : w.heap.size < W0.heap.size := by omega
  have HC := hide hc
  have HO0 := hide hO0
  have HT0 : Hid (TabAt W0) := (unhide HT).only hO0 (by simp)
  have HP0 : Hid (PAt W0 A p) := (unhide HP).only hO0 (fun _ _ => by simp)
  have HQ0 : Hid (PAt W0 A2 q) := (unhide HQ).only hO0 (fun _ _ => by simp)
  have HA0 : Hid (∀ a, A = some a → a.block < W0.heap.size ∧ p.length ≤ cap) := fun a ha => by
    have := (unhide HA) a ha
    exact ⟨by omega, this.2⟩
  have HAW0 := hide (awake_any (unhide HT0))
  have hs0' := hs0
  have HS0 := hide hs0
  clear hc hO0 hW0 hs0 hs0' HT HP HQ HA
  go_wp2_with fail
  go_loopg [5] n (fun g v wr => ∃ (j kk : Nat), kk = g ∧ j + kk = n ∧ v = .int .i64 j ∧ W0 = wr ∧ ∀ (i : Nat) (x : I), p[i]? = some x → i < j → x.o ≠ 8 ∧ x.o ≠ 9)
  case atStart => exact ⟨0, n, rfl, by omega, rfl, rfl, fun i x _ h => absurd h (by omega)⟩
  case round =>
    obtain ⟨j, kk, rfl, hjk, rfl, rfl, hall⟩ := hrel
    have HALL := hide hall
    clear hall
    by_cases hj : j < n
    · obtain ⟨x, hx⟩ : ∃ x, p[j]? = some x := some_of_lt (by have := unhide HN; omega)
      obtain ⟨b, off, hAe, hbl, c0, _, _, _, _⟩ := (unhide HP0) _ _ hx
      subst hAe
      have HX := hide hx
      obtain ⟨o, ho⟩ : ∃ o, x.o = o := ⟨_, rfl⟩
      rw [ho] at c0
      have HO := hide ho
      clear hx ho
      have g1 : decide ((j : Int) < (n : Int)) = true := by simp; omega
      have g2 : decide (n ≤ j) = false := by simp; omega
      have g3 : decide (j < n) = true := by simp; omega
      by_cases h8 : o = 8
      · have e8 : (o == 8) = true := by simpa using h8
        clear h8
        go_wp2_with (first | (go_at_call 5; refine (unhide HAW0).mono ?_; rintro _ W5 ⟨rfl, hb5⟩; have HB5 := hide hb5; clear hb5))
        go_ret
        exact ⟨rfl, (unhide HO0).nil_below.trans ((unhide HB5).mono (by have := unhide HS0; omega))⟩
      · by_cases h9 : o = 9
        · have e8 : (o == 8) = false := by simpa using h8
          have e9 : (o == 9) = true := by simpa using h9
          clear h8 h9
          go_wp2_with (first | (go_at_call 5; refine (unhide HAW0).mono ?_; rintro _ W5 ⟨rfl, hb5⟩; have HB5 := hide hb5; clear hb5))
          go_ret
          exact ⟨rfl, (unhide HO0).nil_below.trans ((unhide HB5).mono (by have := unhide HS0; omega))⟩
        · have e8 : (o == 8) = false := by simpa using h8
          have e9 : (o == 9) = false := by simpa using h9
          have H89 := hide (And.intro h8 h9)
          have hw1 : IntKind.i64.wrap ((j : Int) + 1) = (j : Int) + 1 := by
            rw [Go.IntWalk.i64_left]
            exact Go.IntWalk.wrap64_in _ (by omega)
          clear h8 h9
          go_wp2_with fail
          go_roundg (n - (j + 1))
          case measure => omega
          case rel =>
            refine ⟨j + 1, n - (j + 1), rfl, by omega, by go_num, rfl, fun i y hy hi => ?_⟩
            by_cases hij : i = j
            · subst hij
              rw [unhide HX] at hy
              injection hy with hy
              subst hy
              rw [unhide HO]
              exact unhide H89
            · exact (unhide HALL) i y hy (by omega)
    · have g1 : decide ((j : Int) < (n : Int)) = false := by simp; omega
      have g2 : decide (j < n) = false := by simp; omega
      have hjj : ∀ (i : Nat) (x : I), p[i]? = some x → x.o ≠ 8 ∧ x.o ≠ 9 := fun i x hx => (unhide HALL) i x hx (by
        have := (List.getElem?_eq_some_iff.1 hx).1
        have := unhide HN
        omega)
      have HJJ := hide hjj
      clear hjj HALL hj
      obtain ⟨i0, hi, hz0, hz1, hz2⟩ := info_parts info33
      go_upto_region 10 with (at_builtin; refine wpList_append_instrs _ rfl (.tmp 53) (.tmp 55) 22 rfl W0.heap.size 33 i0 (.agg #[.int .i64 0, .int .i64 0, .int .i64 0, .int .i64 0, .int .i64 0]) 40 und22 hi hz0 hz1 hz2 rfl _ _ _ rfl (World.ownsRow_nil _ _ _ _) A cap p (by rw [unhide HN]; rfl) (unhide HP0) (by have := unhide HN; unfold maxLen; omega) (by have := unhide HN; omega) (Nat.le_refl _) ?_)
      intro v1 W1 hown1 hgrow1
      obtain ⟨N1, c1', rfl⟩ := owns_form hown1
      have hO1 : Only [] W0 W1 := Only.grown_new (v := .slice none 0 0) (Only.refl [] W0) hgrow1 (by simp [Value.ownBlock])
      have HW1 := hide hown1
      have HO1 := hide hO1
      clear hown1 hgrow1 hO1
      try simp only [Nat.zero_add]
      go_upto_region 10 with fail
      go_upto_region 11 with (at_builtin; refine wpList_append_own_at _ rfl (.tmp 57) (.tmp 59) 22 rfl W0.heap.size 33 i0 (.agg #[.int .i64 0, .int .i64 0, .int .i64 0, .int .i64 0, .int .i64 0]) 5 40 und22 hi hz0 hz1 hz2 rfl (by decide) _ _ _ rfl (((Only.refl [] W1).alloc _).owns (unhide HW1) (by simp)) ⟨W1.heap.size, 0, none⟩ 1 1 (I.cells stopI) rfl rfl (World.news_of_block (heap_alloc_last W1 _)) (by intro u hu; exact in_one [stopI] u (by simpa using hu)) (by have := unhide HN; unfold maxLen; omega) (by have := unhide HN; omega) (by have := (unhide HO1).size; simp; omega) ?_)
      intro v2 W2 hown2 hgrow2 _ _
      obtain ⟨N2, c2', rfl⟩ := owns_form hown2
      have hO2 : Only [] W0 W2 := Only.grown_new ((unhide HO1).alloc _) hgrow2 (own_ge (unhide HW1))
      have HW2 := hide hown2
      have HO2 := hide hO2
      have HQ2 : Hid (PAt W2 A2 q) := (unhide HQ0).only hO2 (fun _ _ => by simp)
      clear hown2 hgrow2 hO2 HO1 HW1 HQ0
      go_upto_region 11 with fail
      go_upto_region 12 with (at_builtin; refine wpList_append_instrs _ rfl (.tmp 61) (.tmp 62) 22 rfl W0.heap.size 33 i0 (.agg #[.int .i64 0, .int .i64 0, .int .i64 0, .int .i64 0, .int .i64 0]) 40 und22 hi hz0 hz1 hz2 rfl _ _ _ rfl (unhide HW2) A2 cap2 q (by rw [unhide HN2]; rfl) (unhide HQ2) (by have := unhide HN; have := unhide HN2; unfold maxLen; omega) (by have := unhide HN; have := unhide HN2; omega) (unhide HO2).size ?_)
      intro v3 W3 hown3 hgrow3
      have hO3 : Only [] W0 W3 := Only.grown_new (unhide HO2) hgrow3 (own_ge (unhide HW2))
      have hown4 : W3.ownsRow W0.heap.size 33 5 v3 (p ++ [stopI] ++ q).length ((p ++ [stopI] ++ q).flatMap I.cells) := by
        have h' := hown3
        rw [show p.length + 1 + q.length = (p ++ [stopI] ++ q).length by simp; omega] at h'
        simpa [List.flatMap_append] using h'
      obtain ⟨gg, cc, rfl, hgc, hge, hgl, hcells⟩ := owns_cells hown4 (by simp; omega)
      have HPP := hide (PAt.of_cells hgl hcells)
      have HCC := hide hgc
      have HGL := hide hgl
      rw [unhide HLQ]
      have HR1 := hide ((unhide HRP) W3 p.length ((unhide HT0).only hO3 (by simp)) ((unhide HP0).only hO3 (fun _ _ => by simp)) (fun a ha => ⟨Nat.lt_of_lt_of_le ((unhide HA0) a ha).1 hO3.size, by have := ((unhide HA0) a ha).2; have := unhide HN; omega⟩) (still_all (unhide HJJ)))
      have HO3 := hide hO3
      have HT3 : Hid (TabAt W3) := (unhide HT0).only hO3 (by simp)
      have b0 := (hO3.cell (p := ⟨w.heap.size, 0, none⟩) hcl (by simp)).trans ((unhide HC) 0 _ rfl)
      have b1 := (hO3.cell (p := ⟨w.heap.size, 1, none⟩) hcl (by simp)).trans ((unhide HC) 1 _ rfl)
      have b2 := (hO3.cell (p := ⟨w.heap.size, 2, none⟩) hcl (by simp)).trans ((unhide HC) 2 _ rfl)
      have b3 := (hO3.cell (p := ⟨w.heap.size, 3, none⟩) hcl (by simp)).trans ((unhide HC) 3 _ rfl)
      have b4 := (hO3.cell (p := ⟨w.heap.size, 4, none⟩) hcl (by simp)).trans ((unhide HC) 4 _ rfl)
      have b5 := (hO3.cell (p := ⟨w.heap.size, 5, none⟩) hcl (by simp)).trans ((unhide HC) 5 _ rfl)
      have b6 := (hO3.cell (p := ⟨w.heap.size, 6, none⟩) hcl (by simp)).trans ((unhide HC) 6 _ rfl)
      have b7 := (hO3.cell (p := ⟨w.heap.size, 7, none⟩) hcl (by simp)).trans ((unhide HC) 7 _ rfl)
      have b8 := (hO3.cell (p := ⟨w.heap.size, 8, none⟩) hcl (by simp)).trans ((unhide HC) 8 _ rfl)
      have b9 := (hO3.cell (p := ⟨w.heap.size, 9, none⟩) hcl (by simp)).trans ((unhide HC) 9 _ rfl)
      have b10 := (hO3.cell (p := ⟨w.heap.size, 10, none⟩) hcl (by simp)).trans ((unhide HC) 10 _ rfl)
      have b11 := (hO3.cell (p := ⟨w.heap.size, 11, none⟩) hcl (by simp)).trans ((unhide HC) 11 _ rfl)
      have b12 := (hO3.cell (p := ⟨w.heap.size, 12, none⟩) hcl (by simp)).trans ((unhide HC) 12 _ rfl)
      have hcl3 : w.heap.size < W3.heap.size := Nat.lt_of_lt_of_le hcl hO3.size
      clear hown3 hgrow3 hown4 hgc hge hgl hcells hO3 HW2 HO2 HQ2 hi hz0 hz1 hz2 k0 HRP HAW0 HC
      clear i0
      go_upto_region 12 with fail
      go_wp2_with fail
      refine (unhide HR1).mono ?_
      rintro _ W4 ⟨B1, b1', rfl, hw4, hb4⟩
      have HW4 := hide hw4
      have HB4 := hide hb4
      have f0 := (hb4.cell (p := ⟨w.heap.size, 0, none⟩) hcl3).trans b0
      have f1 := (hb4.cell (p := ⟨w.heap.size, 1, none⟩) hcl3).trans b1
      have f2 := (hb4.cell (p := ⟨w.heap.size, 2, none⟩) hcl3).trans b2
      have f3 := (hb4.cell (p := ⟨w.heap.size, 3, none⟩) hcl3).trans b3
      have f4 := (hb4.cell (p := ⟨w.heap.size, 4, none⟩) hcl3).trans b4
      have f5 := (hb4.cell (p := ⟨w.heap.size, 5, none⟩) hcl3).trans b5
      have f6 := (hb4.cell (p := ⟨w.heap.size, 6, none⟩) hcl3).trans b6
      have f7 := (hb4.cell (p := ⟨w.heap.size, 7, none⟩) hcl3).trans b7
      have f8 := (hb4.cell (p := ⟨w.heap.size, 8, none⟩) hcl3).trans b8
      have f9 := (hb4.cell (p := ⟨w.heap.size, 9, none⟩) hcl3).trans b9
      have f10 := (hb4.cell (p := ⟨w.heap.size, 10, none⟩) hcl3).trans b10
      have f11 := (hb4.cell (p := ⟨w.heap.size, 11, none⟩) hcl3).trans b11
      have f12 := (hb4.cell (p := ⟨w.heap.size, 12, none⟩) hcl3).trans b12
      have hcl4 : w.heap.size < W4.heap.size := Nat.lt_of_lt_of_le hcl3 hb4.size
      clear hw4 hb4 b0 b1 b2 b3 b4 b5 b6 b7 b8 b9 b10 b11 b12 HR1
      go_upto_region 13 with fail
      obtain ⟨W5, hW5⟩ : ∃ W, W4.alloc (Obj.cells #[Value.int IntKind.i64 t0, Value.int IntKind.i64 t1, Value.int IntKind.i64 t2, Value.int IntKind.i64 t3] 24) = W := ⟨_, rfl⟩
      have hO5 : Only [] W4 W5 := by rw [← hW5]; exact (Only.refl [] W4).alloc _
      have hs5 : W5.heap.size = W4.heap.size + 1 := by rw [← hW5]; simp
      have ha5 : ∀ q v, (#[Value.int IntKind.i64 t0, Value.int IntKind.i64 t1, Value.int IntKind.i64 t2, Value.int IntKind.i64 t3] : Array Value)[q]? = some v → W5.cell? ⟨W4.heap.size, q, none⟩ = some v := fun q v hq => by
        rw [← hW5]
        exact (cell_of_row (W4.alloc (Obj.cells #[Value.int IntKind.i64 t0, Value.int IntKind.i64 t1, Value.int IntKind.i64 t2, Value.int IntKind.i64 t3] 24)) W4.heap.size q _ 24 (0, 0) (heap_alloc_last W4 _)).trans hq
      rw [hW5]
      have h0' := (hO5.cell (p := ⟨w.heap.size, 0, none⟩) hcl4 (by simp)).trans f0
      have h1' := (hO5.cell (p := ⟨w.heap.size, 1, none⟩) hcl4 (by simp)).trans f1
      have h2' := (hO5.cell (p := ⟨w.heap.size, 2, none⟩) hcl4 (by simp)).trans f2
      have h3' := (hO5.cell (p := ⟨w.heap.size, 3, none⟩) hcl4 (by simp)).trans f3
      have h4' := (hO5.cell (p := ⟨w.heap.size, 4, none⟩) hcl4 (by simp)).trans f4
      have h5' := (hO5.cell (p := ⟨w.heap.size, 5, none⟩) hcl4 (by simp)).trans f5
      have h6' := (hO5.cell (p := ⟨w.heap.size, 6, none⟩) hcl4 (by simp)).trans f6
      have h7' := (hO5.cell (p := ⟨w.heap.size, 7, none⟩) hcl4 (by simp)).trans f7
      have h8' := (hO5.cell (p := ⟨w.heap.size, 8, none⟩) hcl4 (by simp)).trans f8
      have h9' := (hO5.cell (p := ⟨w.heap.size, 9, none⟩) hcl4 (by simp)).trans f9
      have h10' := (hO5.cell (p := ⟨w.heap.size, 10, none⟩) hcl4 (by simp)).trans f10
      have h11' := (hO5.cell (p := ⟨w.heap.size, 11, none⟩) hcl4 (by simp)).trans f11
      have h12' := (hO5.cell (p := ⟨w.heap.size, 12, none⟩) hcl4 (by simp)).trans f12
      have hcl5 : w.heap.size < W5.heap.size := Nat.lt_of_lt_of_le hcl4 hO5.size
      have HA5 := hide ha5
      have HW5 := hide (hO5.owns (unhide HW4) (by simp))
      have HS5 := hide hs5
      have HT5 : Hid (TabAt W5) := ((unhide HT3).below (unhide HB4) (unhide HT3).1).only hO5 (by simp)
      have HR2 := hide ((unhide HRQ) W5 gg cc (unhide HJJ) (unhide HT5) (((unhide HPP).below (unhide HB4) (fun a ha => by injection ha with ha; subst ha; exact unhide HGL)).only hO5 (fun _ _ => by simp)) (Nat.lt_of_lt_of_le (Nat.lt_of_lt_of_le (unhide HGL) (unhide HB4).size) hO5.size) (by have := unhide HCC; have := unhide HLQ; omega))
      have HO5 := hide hO5
      clear hW5 hO5 hs5 ha5 f0 f1 f2 f3 f4 f5 f6 f7 f8 f9 f10 f11 f12 HRQ
      go_wp2_with fail
      refine (unhide HR2).mono ?_
      rintro _ W6 ⟨B2, b2', rfl, hw6, hb6⟩
      have HW6 := hide hw6
      have HB6 := hide hb6
      have hr4 : W4.heap.size < W5.heap.size := by have := unhide HS5; omega
      have m0 := (hb6.cell (p := ⟨W4.heap.size, 0, none⟩) hr4).trans ((unhide HA5) 0 _ rfl)
      have m1 := (hb6.cell (p := ⟨W4.heap.size, 1, none⟩) hr4).trans ((unhide HA5) 1 _ rfl)
      have m2 := (hb6.cell (p := ⟨W4.heap.size, 2, none⟩) hr4).trans ((unhide HA5) 2 _ rfl)
      have m3 := (hb6.cell (p := ⟨W4.heap.size, 3, none⟩) hr4).trans ((unhide HA5) 3 _ rfl)
      have c0 := (hb6.cell (p := ⟨w.heap.size, 0, none⟩) hcl5).trans h0'
      have hcl6 : w.heap.size < W6.heap.size := Nat.lt_of_lt_of_le hcl5 hb6.size
      have hr6 : W4.heap.size < W6.heap.size := Nat.lt_of_lt_of_le hr4 hb6.size
      clear hw6 hb6 h0' h1' h2' h3' h4' h5' h6' h7' h8' h9' h10' h11' h12' HR2 HA5
      go_upto_region 14 with fail
      obtain ⟨W7, hW7⟩ : ∃ W, W6.alloc (Obj.cells #[Value.int IntKind.i64 t0, Value.int IntKind.i64 t1, Value.int IntKind.i64 t2, Value.int IntKind.i64 t3] 24) = W := ⟨_, rfl⟩
      have hO7 : Only [] W6 W7 := by rw [← hW7]; exact (Only.refl [] W6).alloc _
      have hs7 : W7.heap.size = W6.heap.size + 1 := by rw [← hW7]; simp
      have ha7 : ∀ q v, (#[Value.int IntKind.i64 t0, Value.int IntKind.i64 t1, Value.int IntKind.i64 t2, Value.int IntKind.i64 t3] : Array Value)[q]? = some v → W7.cell? ⟨W6.heap.size, q, none⟩ = some v := fun q v hq => by
        rw [← hW7]
        exact (cell_of_row (W6.alloc (Obj.cells #[Value.int IntKind.i64 t0, Value.int IntKind.i64 t1, Value.int IntKind.i64 t2, Value.int IntKind.i64 t3] 24)) W6.heap.size q _ 24 (0, 0) (heap_alloc_last W6 _)).trans hq
      rw [hW7]
      have u0 := ha7 0 _ rfl
      have u1 := ha7 1 _ rfl
      have u2 := ha7 2 _ rfl
      have u3 := ha7 3 _ rfl
      have v0 := (hO7.cell (p := ⟨W4.heap.size, 0, none⟩) hr6 (by simp)).trans m0
      have v1 := (hO7.cell (p := ⟨W4.heap.size, 1, none⟩) hr6 (by simp)).trans m1
      have v2 := (hO7.cell (p := ⟨W4.heap.size, 2, none⟩) hr6 (by simp)).trans m2
      have v3 := (hO7.cell (p := ⟨W4.heap.size, 3, none⟩) hr6 (by simp)).trans m3
      have y0 := (hO7.cell (p := ⟨w.heap.size, 0, none⟩) hcl6 (by simp)).trans c0
      have HW15 := hide (hO7.owns (Below.owns (unhide HB6) (unhide HW5) (fun k hk => own_lt (unhide HW5) k hk)) (by simp))
      have HW17 := hide (hO7.owns (unhide HW6) (by simp))
      have HB7 : Hid (Below w.heap.size w W7) := by
        have g1 := (unhide HO0).nil_below
        have g2 := (unhide HO3).nil_below
        have g3 := unhide HB4
        have g4 := (unhide HO5).nil_below
        have g5 := unhide HB6
        have g6 := hO7.nil_below
        have l1 := g1.size
        have l2 := g2.size
        have l3 := g3.size
        have l4 := g4.size
        have l5 := g5.size
        exact ((((g1.trans (g2.mono (by omega))).trans (g3.mono (by omega))).trans (g4.mono (by omega))).trans (g5.mono (by omega))).trans (g6.mono (by omega))
      have HT7 : Hid (TabAt W7) := ((unhide HT5).below (unhide HB6) (unhide HT5).1).only hO7 (by simp)
      have HAW7 := hide (awake_any (unhide HT7))
      have hkn := (unhide HSHORT) (unhide HJJ)
      have gk : decide ((n : Int) < (k : Int)) = false := by simp; omega
      have gk2 : decide (n < k) = false := by simp; omega
      have hE : ∀ w : World, (Op.equalIn 10000 24 (.agg #[.int .i64 t0, .int .i64 t1, .int .i64 t2, .int .i64 t3]) (.agg #[.int .i64 t0, .int .i64 t1, .int .i64 t2, .int .i64 t3])).run Tryd.prog w = .ok true w := fun w => by
        rw [eq24]; simp
      have HKN := hide hkn
      generalize W6.heap.size = rb at *
      generalize W4.heap.size = ra at *
      clear hW7 hO7 hs7 ha7 m0 m1 m2 m3 c0 hr6 hr4 HW4 HW5 HW6 HO0 HO3 HB4 HO5 HB6 HT5 HT3 HSHORT hkn HS5 HPP HCC HGL
      go_wp2_with fail
      obtain ⟨N, hNL⟩ : ∃ N, L.length = N := ⟨_, rfl⟩
      have HNL := hide hNL
      have hN30 : N ≤ 30 := by have := (unhide HKN).2; have := (unhide HKN).1; omega
      simp only [hNL] at HW15 HW17 ⊢
      clear hNL u0 u1 u2 u3 v0 v1 v2 v3 y0 gk gk2 hE HAW7
      go_loopg [13] N (fun g v wr => ∃ (i kk : Nat), kk = g ∧ i + kk = N ∧ v = .int .i64 i ∧ Only [] W7 wr)
      case atStart => exact ⟨0, N, rfl, by omega, rfl, Only.refl _ _⟩
      case round =>
        obtain ⟨i, kk, rfl, hik, rfl, hO⟩ := hrel
        by_cases hiN : i < N
        · obtain ⟨x, hx⟩ : ∃ x, L[i]? = some x := some_of_lt (by have := unhide HNL; omega)
          obtain ⟨g1, q1, hv1, hq1, _, hl1, hc1⟩ := owns_cells (hO.owns (unhide HW15) (by simp)) (by omega)
          obtain ⟨g2, q2, hv2, hq2, _, hl2, hc2⟩ := owns_cells (hO.owns (unhide HW17) (by simp)) (by omega)
          injection hv1 with hv1a _ hv1c
          injection hv2 with hv2a _ hv2c
          subst hv1a hv1c hv2a hv2c
          have a0 := hc1 _ _ (em_cell (f := 0) hx (by decide))
          have a1 := hc1 _ _ (em_cell (f := 1) hx (by decide))
          have a2 := hc1 _ _ (em_cell (f := 2) hx (by decide))
          have a3 := hc1 _ _ (em_cell (f := 3) hx (by decide))
          have c0 := hc2 _ _ (em_cell (f := 0) hx (by decide))
          have c1 := hc2 _ _ (em_cell (f := 1) hx (by decide))
          have c2 := hc2 _ _ (em_cell (f := 2) hx (by decide))
          have c3 := hc2 _ _ (em_cell (f := 3) hx (by decide))
          obtain ⟨x0, x1, x2, x3⟩ := x
          simp only [Nat.add_zero] at a0 c0
          have i1 : decide ((i : Int) < (N : Int)) = true := by simp; omega
          have i2 : decide (i < N) = true := by simp; omega
          have i3 : decide (N ≤ i) = false := by simp; omega
          have i4 : (i : Int) < (N : Int) := by omega
          have i5 : (0 : Int) ≤ (i : Int) := by omega
          have hw1 : IntKind.i64.wrap ((i : Int) + 1) = (i : Int) + 1 := by
            rw [Go.IntWalk.i64_left]
            exact Go.IntWalk.wrap64_in _ (by omega)
          have HO := hide hO
          clear hx hc1 hc2 hO
          go_wp2_with fail
          go_quiet (fail)
          go_wp2_with fail
          go_roundg (N - (i + 1))
          case measure => omega
          case rel => exact ⟨i + 1, N - (i + 1), rfl, by omega, by go_num, (unhide HO).drewN nq⟩
        · have i1 : decide ((i : Int) < (N : Int)) = false := by simp; omega
          have i2 : decide (i < N) = false := by simp; omega
          have HAE := hide (awake_any ((unhide HT7).only hO (by simp)))
          have HBE : Hid (Below w.heap.size w wr) := (unhide HB7).trans (hO.nil_below.mono (unhide HB7).size)
          clear hO
          go_wp2_with (first | (go_at_call 5; refine (unhide HAE).mono ?_; rintro _ WE ⟨rfl, hbe⟩; have HBF := hide hbe; clear hbe))
          go_ret
          exact ⟨rfl, (unhide HBE).trans ((unhide HBF).mono (unhide HBE).size)⟩
end Go.Proofs.YtipllcepoijbiaaDoor
