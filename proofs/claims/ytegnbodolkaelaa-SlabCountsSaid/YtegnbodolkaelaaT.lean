/-
  The contract of (*Slab).Take.
-/
import Derived.Test.YtegnbodolkaelaaF
import Derived.RegionTactic
import Derived.ChangeAlike
import Derived.BigRegion
namespace Go.Proofs.Ytegnbodolkaelaa
open Go.RowKit Go.Deep
set_option linter.unusedVariables false

theorem take_arg {w : World} {sb lb fb cap : Nat} {S : Sl} {c v : Int} {u : Bool} (hA : At w sb lb fb cap S) (hc : c < 1 ∨ 4 < c) :
    Calls Try.prog 9 #[.pointer (some ⟨sb, 0, none⟩), .int .i64 c, .bool u, .int .i64 v] w fun e w' =>
      e = .returned (.tuple #[.agg #[.int .i64 0, .int .i64 0], .int .i64 1]) ∧ Only [] w w' := by
  have l1 := hA.hd.lt
  clear hA
  by_cases h : c < 1
  · go_enter Try.func9, Try.ntmps9
    go_wp2_with fail
    refine bodyPost_ret (v := .tuple #[.agg #[.int .i64 0, .int .i64 0], .int .i64 1]) (by simp [results, Try.results9, go_sem]) rfl ⟨rfl, ?_⟩
    repeat (first | with_reducible exact Only.refl _ _ | with_reducible apply Only.drewN | with_reducible apply Only.alloc | with_reducible refine Only.setNew ?_ (Nat.le_refl _) _)
  · have h4 : 4 < c := by omega
    clear hc
    go_enter Try.func9, Try.ntmps9
    go_wp2_with fail
    refine bodyPost_ret (v := .tuple #[.agg #[.int .i64 0, .int .i64 0], .int .i64 1]) (by simp [results, Try.results9, go_sem]) rfl ⟨rfl, ?_⟩
    repeat (first | with_reducible exact Only.refl _ _ | with_reducible apply Only.drewN | with_reducible apply Only.alloc | with_reducible refine Only.setNew ?_ (Nat.le_refl _) _)

theorem take_full {w : World} {sb lb fb cap : Nat} {S : Sl} {c v : Int} {u : Bool} (hA : At w sb lb fb cap S) (h1 : 1 ≤ c) (h4 : c ≤ 4) (hf : S.m = 0 ∨ (u = false ∧ (S.m : Int) ≤ S.res)) :
    Calls Try.prog 9 #[.pointer (some ⟨sb, 0, none⟩), .int .i64 c, .bool u, .int .i64 v] w fun e w' =>
      e = .returned (.tuple #[.agg #[.int .i64 0, .int .i64 0], .int .i64 11]) ∧ Only [] w w' := by
  have k1 := hA.c1
  have k2 := hA.c2
  have l1 := hA.hd.lt
  clear hA
  by_cases hm : S.m = 0
  · have hmb : ((S.m : Int) == 0) = true := by simpa using hm
    rw [hm] at k1
    clear hf hm hmb
    go_enter Try.func9, Try.ntmps9
    go_wp2_with fail
    go_quiet (fail)
    go_wp2_with fail
    refine bodyPost_ret (v := .tuple #[.agg #[.int .i64 0, .int .i64 0], .int .i64 11]) (by simp [results, Try.results9, go_sem]) rfl ⟨rfl, ?_⟩
    repeat (first | with_reducible exact Only.refl _ _ | with_reducible apply Only.drewN | with_reducible apply Only.alloc | with_reducible refine Only.setNew ?_ (Nat.le_refl _) _)
  · obtain ⟨rfl, hr⟩ := hf.resolve_left hm
    have hmb : ((S.m : Int) == 0) = false := by simpa using hm
    clear hf hm
    go_enter Try.func9, Try.ntmps9
    go_wp2_with fail
    go_quiet (fail)
    go_wp2_with fail
    refine bodyPost_ret (v := .tuple #[.agg #[.int .i64 0, .int .i64 0], .int .i64 11]) (by simp [results, Try.results9, go_sem]) rfl ⟨rfl, ?_⟩
    repeat (first | with_reducible exact Only.refl _ _ | with_reducible apply Only.drewN | with_reducible apply Only.alloc | with_reducible refine Only.setNew ?_ (Nat.le_refl _) _)

set_option maxHeartbeats 1000000 in
theorem take_ok {w : World} {sb lb fb cap : Nat} {S : Sl} {k : Nat} {v K : Int} {u : Bool} (hA : At w sb lb fb cap S) (hI : S.Inv) (hB : S.Bd K) (hK : K ≤ 1000000) (h1 : 1 ≤ k) (h4 : k ≤ 4)
    (hm : 0 < S.m) (hu : u = true ∨ S.res < S.m) :
    Calls Try.prog 9 #[.pointer (some ⟨sb, 0, none⟩), .int .i64 k, .bool u, .int .i64 v] w fun e w' =>
      e = .returned (.tuple #[.agg #[.int .i64 (S.fr (S.m - 1) : Int), .int .i64 (S.tn (S.fr (S.m - 1)) + 1)], .int .i64 0]) ∧ At w' sb lb fb cap (S.taken k v) ∧ Only [sb, lb, fb] w w' := by
  have n1 := hA.ne1
  have n2 := hA.ne2
  have n3 := hA.ne3
  have hi : S.fr (S.m - 1) < S.n := hI.fr _ (by omega)
  have hn := hI.n2
  have hmn := hI.mn
  have hcap := hA.nc
  have k0 := hA.c0
  have k1 := hA.c1
  have k2 := hA.c2
  have k3 := hA.c3 (c := k) (by omega)
  have f0 := hA.f0 (j := S.m - 1) (by omega)
  have z1 := hA.z1
  have z2 := hA.z2
  have t0 := hB.1 (S.fr (S.m - 1))
  have t1 := hB.2 k
  obtain ⟨i, hI0⟩ : ∃ i, i = S.fr (S.m - 1) := ⟨_, rfl⟩
  rw [← hI0] at f0 hi t0 ⊢
  have k4 := hA.s0 hi
  have k5 := hA.s1 hi
  have k6 := hA.s2 hi
  have k7 := hA.s3 hi
  have l1 := hA.hd.lt
  have l2 := hA.sl.lt
  have l3 := hA.fr.lt
  obtain ⟨m, hM⟩ : ∃ m, S.m = m + 1 := ⟨S.m - 1, by omega⟩
  rw [hM] at k1 f0 hmn hu
  simp only [Nat.add_sub_cancel] at f0
  have HA : Hid (At w sb lb fb cap S) := hA
  have HI : Hid (i = S.fr (S.m - 1)) := hI0
  have HM : Hid (S.m = m + 1) := hM
  clear hA hI0 hM hI hB hm
  have hmb : ((m : Int) + 1 == 0) = false := by simp; omega
  by_cases hur : u = true
  · subst hur
    clear hu
    go_enter Try.func9, Try.ntmps9
    go_wp2_with fail
    go_quiet (fail)
    go_wp2_with fail
    go_quiet (fail)
    go_wp2_with fail
    go_region
    all_goals go_wp2_with fail
    refine bodyPost_ret (v := .tuple #[.agg #[.int .i64 i, .int .i64 (S.tn i + 1)], .int .i64 0]) (by simp [results, Try.results9, go_sem]) rfl ⟨rfl, ?_, ?_⟩
    · exact ((((((HA.out.alloc _).drewN _).taken HM.out (by rw [HI.out, HM.out]; rfl) (by omega)).far (by omega) (by omega) (by omega) _).far (by omega) (by omega) (by omega) _).drew)
    · exact (((((((((((Only.refl _ _).alloc _).drewN _).setIn (by simp) _).setIn (by simp) _).setIn (by simp) _).setIn (by simp) _).setIn (by simp) _).setNew (Nat.le_refl _) _).setNew (Nat.le_refl _) _).drew)
  · obtain rfl : u = false := by simpa using hur
    have hlm : decide ((m : Int) + 1 ≤ S.res) = false := by
      have := hu.resolve_left (by simp)
      simp
      omega
    clear hu
    go_enter Try.func9, Try.ntmps9
    go_wp2_with fail
    go_quiet (fail)
    go_wp2_with fail
    go_quiet (fail)
    go_wp2_with fail
    go_region
    all_goals go_wp2_with fail
    refine bodyPost_ret (v := .tuple #[.agg #[.int .i64 i, .int .i64 (S.tn i + 1)], .int .i64 0]) (by simp [results, Try.results9, go_sem]) rfl ⟨rfl, ?_, ?_⟩
    · exact ((((((HA.out.alloc _).drewN _).taken HM.out (by rw [HI.out, HM.out]; rfl) (by omega)).far (by omega) (by omega) (by omega) _).far (by omega) (by omega) (by omega) _).drew)
    · exact (((((((((((Only.refl _ _).alloc _).drewN _).setIn (by simp) _).setIn (by simp) _).setIn (by simp) _).setIn (by simp) _).setIn (by simp) _).setNew (Nat.le_refl _) _).setNew (Nat.le_refl _) _).drew)
end Go.Proofs.Ytegnbodolkaelaa
