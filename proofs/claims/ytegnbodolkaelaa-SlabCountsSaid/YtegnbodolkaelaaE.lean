/-
  The contract of (*Slab).Free.
-/
import Derived.Test.YtegnbodolkaelaaT
import Derived.Deep.RegionLaw
import Derived.Deep.RegionHeld3
import Derived.Deep.AppendLies
import Derived.Deep.DrawnRows
namespace Go.Proofs.Ytegnbodolkaelaa
open Go.RowKit Go.Deep
set_option linter.unusedVariables false

theorem free_stale {w : World} {sb lb fb cap : Nat} {S : Sl} {i t : Int} (hA : At w sb lb fb cap S) (hn : S.n ≤ 4096) (hs : Stale S i t) :
    Calls Try.prog 10 #[.pointer (some ⟨sb, 0, none⟩), .agg #[.int .i64 i, .int .i64 t]] w fun e w' =>
      e = .returned (.tuple #[.int .i64 0, .int .i64 12]) ∧ Only [] w w' := by
  have H1 := fun W (h : At W sb lb fb cap S) => find_stale h hn hs
  have HA : Hid (At w sb lb fb cap S) := hA
  have H : Hid (∀ W (h : At W sb lb fb cap S), Calls Try.prog 16 #[.pointer (some ⟨sb, 0, none⟩), .agg #[.int .i64 i, .int .i64 t]] W fun e w' =>
      e = .returned (.tuple #[.pointer none, .int .i64 12]) ∧ Only [] W w') := H1
  clear H1 hA hs hn
  go_enter Try.func10, Try.ntmps10
  go_wp2_with fail
  refine (H.out _ (HA.out.alloc _)).mono ?_
  rintro e w' ⟨rfl, ho⟩
  have HO : Hid (Only [] (w.alloc (Obj.cells #[.int .i64 i, .int .i64 t] 32)) w') := ho
  clear ho H
  go_wp2_with fail
  go_ret2
  exact ⟨rfl, ((Only.refl _ _).alloc _).trans (HO.out.mono (by simp))⟩

set_option maxHeartbeats 1000000 in
theorem free_ok {w : World} {sb lb fb cap : Nat} {S : Sl} {i k : Nat} {K : Int} (hA : At w sb lb fb cap S) (hn : S.n ≤ 4096) (hB : S.Bd K) (hK : K ≤ 1000000) (hi : i < S.n) (hk : S.cl i = (k : Int)) (h1 : 1 ≤ k) (h4 : k ≤ 4)
    (hm : S.m < S.n) :
    Calls Try.prog 10 #[.pointer (some ⟨sb, 0, none⟩), .agg #[.int .i64 i, .int .i64 (S.tn i)]] w fun e w' =>
      e = .returned (.tuple #[.int .i64 (S.vl i), .int .i64 0]) ∧ At w' sb lb fb cap (S.freed i) ∧ Only [sb, lb, fb] w w' := by
  obtain ⟨i0, hi0, hz0, hz1, hz2⟩ : ∃ i0, Try.prog.info? 3 = some i0 ∧ i0.zero = some (.int .i64 0) ∧ i0.size = 1 ∧ i0.bytes = 8 := info_parts (by kernel_rfl)
  have n1 := hA.ne1
  have n2 := hA.ne2
  have n3 := hA.ne3
  have hcap := hA.nc
  have l1 := hA.hd.lt
  have l2 := hA.sl.lt
  have l3 := hA.fr.lt
  have t1 := hB.2 k
  have H : Hid (∀ W (h : At W sb lb fb cap S), Calls Try.prog 16 #[.pointer (some ⟨sb, 0, none⟩), .agg #[.int .i64 i, .int .i64 (S.tn i)]] W fun e w' =>
      e = .returned (.tuple #[.pointer (some ⟨lb, i * 4, none⟩), .int .i64 0]) ∧ Only [] W w') := fun W h => find_ok h hi hn (by omega)
  have HA : Hid (At w sb lb fb cap S) := hA
  have HK : Hid (S.cl i = (k : Int)) := hk
  clear hA hB hk
  go_enter Try.func10, Try.ntmps10
  go_wp2_with fail
  refine (H.out _ (HA.out.alloc _)).mono ?_
  rintro e w' ⟨rfl, ho⟩
  have hA := (HA.out.alloc (Obj.cells #[.int .i64 i, .int .i64 (S.tn i)] 32)).only0 ho
  have hb0 : w'.cell? ⟨w.heap.size, 0, none⟩ = some (.int .i64 i) := by
    rw [ho.cell (by simp) (by simp)]
    simp
  have hsz : w.heap.size < w'.heap.size := by have := ho.size; simp at this; omega
  have hroom : S.m + 1 ≤ cap := by omega
  have j1 := hA.hd.lt
  have j2 := hA.sl.lt
  have j3 := hA.fr.lt
  have k0 := hA.c0
  have k1 := hA.c1
  have k3 := hA.c3 (c := k) (by omega)
  have k4 := hA.s0 hi
  have k5 := hA.s1 hi
  have k6 := hA.s2 hi
  rw [HK.out] at k6
  have k7 := hA.s3 hi
  have f0 := hA.f0 (j := S.m) (by omega)
  have z1 := hA.z1
  have z2 := hA.z2
  have z3 := hA.z3
  have HA' : Hid (At w' sb lb fb cap S) := hA
  have HO : Hid (Only [] (w.alloc (Obj.cells #[.int .i64 i, .int .i64 (S.tn i)] 32)) w') := ho
  clear ho H hA
  go_wp2_with fail
  go_region
  all_goals go_wp2_with fail
  go_region
  all_goals go_wp2_with fail
  go_ret2
  refine ⟨rfl, ?_, ?_⟩
  · exact ((HA'.out.freed HK.out).alloc _).drew.drew
  · exact ((Only.refl _ _).alloc _).trans (((((((((HO.out.mono (by simp)).setIn (by simp) _).setIn (by simp) _).setIn (by simp) _).setIn (by simp) _).setIn (by simp) _).alloc _).drew).drew)
end Go.Proofs.Ytegnbodolkaelaa
