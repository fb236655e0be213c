/-
  The slab as plain data: what each call makes of it, and what holds of it throughout. No program in sight.
-/
import Derived.Test.YtegnbodolkaelaaW
namespace Go.Proofs.Ytegnbodolkaelaa
open Go.RowKit

def upd {α : Type} (f : Nat → α) (i : Nat) (x : α) : Nat → α := fun j => if j = i then x else f j
theorem upd_same {α : Type} (f : Nat → α) (i : Nat) (x : α) : upd f i x i = x := by simp [upd]
theorem upd_other {α : Type} (f : Nat → α) {i j : Nat} (x : α) (h : j ≠ i) : upd f i x j = f j := by simp [upd, h]

/-- A slab: n slots with turns, classes and things; the stack of free ones (its first m); how many are kept; the counts. -/
structure Sl where
  n : Nat
  res : Int
  tn : Nat → Int
  cl : Nat → Int
  vl : Nat → Int
  fr : Nat → Nat
  m : Nat
  lv : Nat → Int

def Sl.taken (S : Sl) (c v : Int) : Sl :=
  { S with m := S.m - 1, tn := upd S.tn (S.fr (S.m - 1)) (S.tn (S.fr (S.m - 1)) + 1), cl := upd S.cl (S.fr (S.m - 1)) c, vl := upd S.vl (S.fr (S.m - 1)) v, lv := upd S.lv c.toNat (S.lv c.toNat + 1) }
def Sl.freed (S : Sl) (i : Nat) : Sl :=
  { S with m := S.m + 1, fr := upd S.fr S.m i, cl := upd S.cl i 0, vl := upd S.vl i 0, lv := upd S.lv (S.cl i).toNat (S.lv (S.cl i).toNat - 1) }
def Sl.put (S : Sl) (i : Nat) (v : Int) : Sl := { S with vl := upd S.vl i v }

/-- What the numbers of calls bound. -/
def Sl.Bd (S : Sl) (K : Int) : Prop := (∀ i, 0 ≤ S.tn i ∧ S.tn i ≤ K) ∧ ∀ c, -K ≤ S.lv c ∧ S.lv c ≤ K

structure Sl.Inv (S : Sl) : Prop where
  n1 : 1 ≤ S.n
  n2 : S.n ≤ 4096
  mn : S.m ≤ S.n
  fr : ∀ j, j < S.m → S.fr j < S.n
  inj : ∀ j k, j < S.m → k < S.m → S.fr j = S.fr k → j = k
  cl0 : ∀ j, j < S.m → S.cl (S.fr j) = 0
  cl4 : ∀ i, 0 ≤ S.cl i ∧ S.cl i ≤ 4
  sum : S.lv 0 + S.lv 1 + S.lv 2 + S.lv 3 + S.lv 4 = (S.n : Int) - S.m
  lv0 : S.lv 0 = 0

theorem Sl.Bd.more {S : Sl} {K K' : Int} (h : S.Bd K) (hk : K ≤ K') : S.Bd K' :=
  ⟨fun i => ⟨(h.1 i).1, by have := (h.1 i).2; omega⟩, fun c => by have := h.2 c; omega⟩
theorem Sl.Bd.taken {S : Sl} {K : Int} (h : S.Bd K) (c v : Int) : (S.taken c v).Bd (K + 1) := by
  refine ⟨fun i => ?_, fun j => ?_⟩
  · have h1 := h.1 i
    have h2 := h.1 (S.fr (S.m - 1))
    simp only [Sl.taken, upd]
    split <;> omega
  · have h1 := h.2 j
    have h2 := h.2 c.toNat
    simp only [Sl.taken, upd]
    split <;> omega
theorem Sl.Bd.freed {S : Sl} {K : Int} (h : S.Bd K) (i : Nat) : (S.freed i).Bd (K + 1) := by
  refine ⟨fun j => ?_, fun j => ?_⟩
  · have h1 := h.1 j
    simp only [Sl.freed]
    omega
  · have h1 := h.2 j
    have h2 := h.2 (S.cl i).toNat
    simp only [Sl.freed, upd]
    split <;> omega
theorem Sl.Bd.put {S : Sl} {K : Int} (h : S.Bd K) (i : Nat) (v : Int) : (S.put i v).Bd K := h

theorem Sl.Inv.taken {S : Sl} (h : S.Inv) (c v : Int) (h1 : 1 ≤ c) (h4 : c ≤ 4) (hm : 0 < S.m) : (S.taken c v).Inv := by
  have e : S.m - 1 < S.m := by omega
  refine ⟨h.n1, h.n2, by have := h.mn; simp only [Sl.taken]; omega, fun j hj => ?_, fun j k hj hk he => ?_, fun j hj => ?_, fun i => ?_, ?_, ?_⟩
  · simp only [Sl.taken] at hj ⊢
    exact h.fr j (by omega)
  · simp only [Sl.taken] at hj hk he
    exact h.inj j k (by omega) (by omega) he
  · simp only [Sl.taken] at hj ⊢
    rw [upd_other _ _ (fun he => by have := h.inj j (S.m - 1) (by omega) e he; omega)]
    exact h.cl0 j (by omega)
  · have := h.cl4 i
    simp only [Sl.taken, upd]
    split <;> omega
  · have hs := h.sum
    have hc : c = 1 ∨ c = 2 ∨ c = 3 ∨ c = 4 := by omega
    simp only [Sl.taken]
    rcases hc with rfl | rfl | rfl | rfl <;> simp [upd] <;> omega
  · simp only [Sl.taken]
    rw [upd_other _ _ (by omega)]
    exact h.lv0

theorem Sl.Inv.freed {S : Sl} (h : S.Inv) (i : Nat) (hi : i < S.n) (hc : S.cl i ≠ 0) (hm : S.m < S.n) : (S.freed i).Inv := by
  have h4 := h.cl4 i
  have hne : ∀ j, j < S.m → S.fr j ≠ i := fun j hj e => hc (by rw [← e]; exact h.cl0 j hj)
  refine ⟨h.n1, h.n2, by simp only [Sl.freed]; omega, fun j hj => ?_, fun j k hj hk he => ?_, fun j hj => ?_, fun k => ?_, ?_, ?_⟩
  · simp only [Sl.freed, upd] at hj ⊢
    split
    · exact hi
    · exact h.fr j (by omega)
  · simp only [Sl.freed, upd] at hj hk he
    by_cases e1 : j = S.m <;> by_cases e2 : k = S.m
    · omega
    · rw [if_pos e1, if_neg e2] at he
      exact absurd he.symm (hne k (by omega))
    · rw [if_neg e1, if_pos e2] at he
      exact absurd he (hne j (by omega))
    · rw [if_neg e1, if_neg e2] at he
      exact h.inj j k (by omega) (by omega) he
  · simp only [Sl.freed, upd] at hj ⊢
    by_cases e1 : j = S.m
    · simp [e1]
    · rw [if_neg e1, if_neg (hne j (by omega))]
      exact h.cl0 j (by omega)
  · have := h.cl4 k
    simp only [Sl.freed, upd]
    split <;> omega
  · have hs := h.sum
    have hc4 : S.cl i = 1 ∨ S.cl i = 2 ∨ S.cl i = 3 ∨ S.cl i = 4 := by omega
    simp only [Sl.freed]
    rcases hc4 with e | e | e | e <;> rw [e] <;> simp [upd] <;> omega
  · simp only [Sl.freed]
    rw [upd_other _ _ (by omega)]
    exact h.lv0
theorem Sl.Inv.put {S : Sl} (h : S.Inv) (i : Nat) (v : Int) : (S.put i v).Inv := ⟨h.n1, h.n2, h.mn, h.fr, h.inj, h.cl0, h.cl4, h.sum, h.lv0⟩

/-- A new one. -/
def Sl.new (n : Nat) (res : Int) : Sl := { n := n, res := res, tn := fun _ => 0, cl := fun _ => 0, vl := fun _ => 0, fr := fun j => n - 1 - j, m := n, lv := fun _ => 0 }
theorem Sl.Inv.new {n : Nat} (res : Int) (h1 : 1 ≤ n) (h2 : n ≤ 4096) : (Sl.new n res).Inv := by
  refine ⟨h1, h2, Nat.le_refl _, fun j hj => ?_, fun j k hj hk he => ?_, fun _ _ => rfl, fun _ => by simp [Sl.new], ?_, rfl⟩ <;> simp only [Sl.new] at * <;> omega
theorem Sl.Bd.new (n : Nat) (res : Int) : (Sl.new n res).Bd 0 := ⟨fun _ => by simp [Sl.new], fun _ => by simp [Sl.new]⟩

/-! ### in memory -/
def slotF (S : Sl) (o : Nat) : Value :=
  .int .i64 (if o % 4 = 0 then ((o / 4 : Nat) : Int) else if o % 4 = 1 then S.tn (o / 4) else if o % 4 = 2 then S.cl (o / 4) else S.vl (o / 4))
def headF (lb fb cap : Nat) (S : Sl) (o : Nat) : Value :=
  if o = 0 then .slice (some ⟨lb, 0, none⟩) S.n S.n else if o = 1 then .slice (some ⟨fb, 0, none⟩) S.m cap else if o = 2 then .int .i64 S.res else .int .i64 (S.lv (o - 3))
def freeF (S : Sl) (o : Nat) : Value := .int .i64 (S.fr o : Int)

/-- The slab S lies in w: its struct in block sb, its slots in lb, the free ones in fb. -/
structure At (w : World) (sb lb fb cap : Nat) (S : Sl) : Prop where
  hd : w.rowIs sb 49 8 (headF lb fb cap S)
  sl : w.rowIs lb 53 (S.n * 4) (slotF S)
  fr : rowTo w fb 3 cap S.n (freeF S)
  nc : S.n ≤ cap

theorem slot0 (S : Sl) (i : Nat) : slotF S (i * 4) = .int .i64 (i : Int) := by
  unfold slotF
  rw [if_pos (by omega), show i * 4 / 4 = i by omega]
theorem slot1 (S : Sl) (i : Nat) : slotF S (i * 4 + 1) = .int .i64 (S.tn i) := by
  unfold slotF
  rw [if_neg (by omega), if_pos (by omega), show (i * 4 + 1) / 4 = i by omega]
theorem slot2 (S : Sl) (i : Nat) : slotF S (i * 4 + 2) = .int .i64 (S.cl i) := by
  unfold slotF
  rw [if_neg (by omega), if_neg (by omega), if_pos (by omega), show (i * 4 + 2) / 4 = i by omega]
theorem slot3 (S : Sl) (i : Nat) : slotF S (i * 4 + 3) = .int .i64 (S.vl i) := by
  unfold slotF
  rw [if_neg (by omega), if_neg (by omega), if_neg (by omega), show (i * 4 + 3) / 4 = i by omega]

namespace At
variable {w w' : World} {sb lb fb cap : Nat} {S : Sl}
theorem only {s : List Nat} (h : At w sb lb fb cap S) (k : Only s w w') (h1 : sb ∉ s) (h2 : lb ∉ s) (h3 : fb ∉ s) : At w' sb lb fb cap S :=
  ⟨k.row h.hd h1, k.row h.sl h2, h.fr.only k h3, h.nc⟩
theorem only0 (h : At w sb lb fb cap S) (k : Only [] w w') : At w' sb lb fb cap S := h.only k (by simp) (by simp) (by simp)
theorem ne1 (h : At w sb lb fb cap S) : sb ≠ lb := row_ne h.hd h.sl (by decide)
theorem ne2 (h : At w sb lb fb cap S) : sb ≠ fb := row_ne h.hd h.fr.choose_spec.1 (by decide)
theorem ne3 (h : At w sb lb fb cap S) : lb ≠ fb := row_ne h.sl h.fr.choose_spec.1 (by decide)
theorem c0 (h : At w sb lb fb cap S) : w.cell? ⟨sb, 0, none⟩ = some (.slice (some ⟨lb, 0, none⟩) S.n S.n) := h.hd.cell (by omega)
theorem c1 (h : At w sb lb fb cap S) : w.cell? ⟨sb, 1, none⟩ = some (.slice (some ⟨fb, 0, none⟩) S.m cap) := h.hd.cell (by omega)
theorem c2 (h : At w sb lb fb cap S) : w.cell? ⟨sb, 2, none⟩ = some (.int .i64 S.res) := h.hd.cell (by omega)
theorem c3 (h : At w sb lb fb cap S) {c : Nat} (hc : c < 5) : w.cell? ⟨sb, 3 + c, none⟩ = some (.int .i64 (S.lv c)) := by
  have := h.hd.cell (i := 3 + c) (by omega)
  rw [this]
  unfold headF
  rw [if_neg (by omega), if_neg (by omega), if_neg (by omega), show 3 + c - 3 = c by omega]
theorem s0 (h : At w sb lb fb cap S) {i : Nat} (hi : i < S.n) : w.cell? ⟨lb, i * 4, none⟩ = some (.int .i64 (i : Int)) := by
  rw [h.sl.cell (by omega), slot0]
theorem s1 (h : At w sb lb fb cap S) {i : Nat} (hi : i < S.n) : w.cell? ⟨lb, i * 4 + 1, none⟩ = some (.int .i64 (S.tn i)) := by
  rw [h.sl.cell (by omega), slot1]
theorem s2 (h : At w sb lb fb cap S) {i : Nat} (hi : i < S.n) : w.cell? ⟨lb, i * 4 + 2, none⟩ = some (.int .i64 (S.cl i)) := by
  rw [h.sl.cell (by omega), slot2]
theorem s3 (h : At w sb lb fb cap S) {i : Nat} (hi : i < S.n) : w.cell? ⟨lb, i * 4 + 3, none⟩ = some (.int .i64 (S.vl i)) := by
  rw [h.sl.cell (by omega), slot3]
theorem f0 (h : At w sb lb fb cap S) {j : Nat} (hj : j < S.n) : w.cell? ⟨fb, j, none⟩ = some (.int .i64 (S.fr j : Int)) := h.fr.cell hj h.nc
theorem z1 (h : At w sb lb fb cap S) (o : Nat) : w.frozen? ⟨sb, o, none⟩ = false := h.hd.frozen o
theorem z2 (h : At w sb lb fb cap S) (o : Nat) : w.frozen? ⟨lb, o, none⟩ = false := h.sl.frozen o
theorem z3 (h : At w sb lb fb cap S) (o : Nat) : w.frozen? ⟨fb, o, none⟩ = false := h.fr.frozen o
end At
end Go.Proofs.Ytegnbodolkaelaa
namespace Go.Proofs.Ytegnbodolkaelaa
open Go.RowKit
namespace At
variable {w w' : World} {sb lb fb cap : Nat} {S : Sl}
theorem alloc (h : At w sb lb fb cap S) (o : Obj) : At (w.alloc o) sb lb fb cap S := ⟨h.hd.alloc o, h.sl.alloc o, h.fr.alloc o, h.nc⟩
theorem drew (h : At w sb lb fb cap S) : At w.drew sb lb fb cap S := ⟨h.hd, h.sl, h.fr, h.nc⟩
theorem drewN (h : At w sb lb fb cap S) (n : Nat) : At (w.drewN n) sb lb fb cap S := ⟨h.hd, h.sl, h.fr, h.nc⟩
theorem far (h : At w sb lb fb cap S) {b o : Nat} (h1 : sb ≠ b) (h2 : lb ≠ b) (h3 : fb ≠ b) (u : Value) : At (w.setCell ⟨b, o, none⟩ u) sb lb fb cap S :=
  ⟨h.hd.setOther h1 u, h.sl.setOther h2 u, h.fr.setOther h3 u, h.nc⟩
/-- What Take's stores make. -/
theorem taken (h : At w sb lb fb cap S) {i m k : Nat} {v : Int} (hm : S.m = m + 1) (hi : i = S.fr m) (hk : k < 5) :
    At (((((w.setCell ⟨sb, 1, none⟩ (.slice (some ⟨fb, 0, none⟩) m cap)).setCell ⟨lb, i * 4 + 1, none⟩ (.int .i64 (S.tn i + 1))).setCell ⟨lb, i * 4 + 2, none⟩ (.int .i64 k)).setCell ⟨lb, i * 4 + 3, none⟩ (.int .i64 v)).setCell
      ⟨sb, 3 + k, none⟩ (.int .i64 (S.lv k + 1))) sb lb fb cap (S.taken k v) := by
  have n1 := h.ne1
  have n2 := h.ne2
  have n3 := h.ne3
  refine ⟨?_, ?_, ?_, h.nc⟩
  · refine ((((((h.hd.set 1 _).setOther n1 _).setOther n1 _).setOther n1 _).set (3 + k) _)).congr fun o ho => ?_
    simp only [headF, Sl.taken, upd, hm, Nat.add_sub_cancel, Int.toNat_natCast]
    by_cases e : o = 3 + k
    · subst e
      simp [show 3 + k ≠ 1 by omega, show 3 + k ≠ 2 by omega]
    · rw [if_neg e]
      by_cases e1 : o = 1
      · simp [e1]
      · rw [if_neg e1]
        by_cases e0 : o = 0
        · simp [e0]
        · simp only [if_neg e0, if_neg e1]
          by_cases e2 : o = 2
          · simp [e2]
          · simp only [if_neg e2]
            rw [if_neg (by omega)]
  · refine ((((((h.sl.setOther n1.symm _).set (i * 4 + 1) _).set (i * 4 + 2) _).set (i * 4 + 3) _).setOther n1.symm _)).congr fun o ho => ?_
    have hfi : S.fr (S.m - 1) = i := by rw [hm, hi]; rfl
    unfold slotF
    simp only [Sl.taken, upd, hfi]
    by_cases e3 : o = i * 4 + 3
    · simp only [e3, if_true]
      rw [if_neg (by omega), if_neg (by omega), if_neg (by omega), if_pos (by omega)]
    · rw [if_neg e3]
      by_cases e2 : o = i * 4 + 2
      · simp only [e2, if_true]
        rw [if_neg (by omega), if_neg (by omega), if_pos (by omega), if_pos (by omega)]
      · rw [if_neg e2]
        by_cases e1 : o = i * 4 + 1
        · simp only [e1, if_true]
          rw [if_neg (by omega), if_pos (by omega), if_pos (by omega)]
        · rw [if_neg e1]
          congr 1
          by_cases q0 : o % 4 = 0
          · simp [q0]
          · by_cases q1 : o % 4 = 1
            · rw [if_neg q0, if_pos q1, if_neg q0, if_pos q1, if_neg (by omega)]
            · by_cases q2 : o % 4 = 2
              · rw [if_neg q0, if_neg q1, if_pos q2, if_neg q0, if_neg q1, if_pos q2, if_neg (by omega)]
              · rw [if_neg q0, if_neg q1, if_neg q2, if_neg q0, if_neg q1, if_neg q2, if_neg (by omega)]
  · exact (((((h.fr.setOther n2.symm _).setOther n3.symm _).setOther n3.symm _).setOther n3.symm _).setOther n2.symm _)
end At
end Go.Proofs.Ytegnbodolkaelaa
namespace Go.Proofs.Ytegnbodolkaelaa
open Go.RowKit
namespace At
variable {w w' : World} {sb lb fb cap : Nat} {S : Sl}
/-- What Free's stores make. -/
theorem freed (h : At w sb lb fb cap S) {i k : Nat} (hk : S.cl i = (k : Int)) :
    At (((((w.setCell ⟨sb, 3 + k, none⟩ (.int .i64 (S.lv k - 1))).setCell ⟨lb, i * 4 + 2, none⟩ (.int .i64 0)).setCell ⟨lb, i * 4 + 3, none⟩ (.int .i64 0)).setCell ⟨fb, S.m, none⟩ (.int .i64 i)).setCell
      ⟨sb, 1, none⟩ (.slice (some ⟨fb, 0, none⟩) (S.m + 1) cap)) sb lb fb cap (S.freed i) := by
  have n1 := h.ne1
  have n2 := h.ne2
  have n3 := h.ne3
  refine ⟨?_, ?_, ?_, h.nc⟩
  · refine ((((((h.hd.set (3 + k) _).setOther n1 _).setOther n1 _).setOther n2 _).set 1 _)).congr fun o ho => ?_
    simp only [headF, Sl.freed, upd, hk, Int.toNat_natCast]
    by_cases e1 : o = 1
    · simp [e1]
    · rw [if_neg e1]
      by_cases e : o = 3 + k
      · subst e
        simp [show 3 + k ≠ 1 by omega, show 3 + k ≠ 2 by omega]
      · rw [if_neg e]
        by_cases e0 : o = 0
        · simp [e0]
        · simp only [if_neg e0, if_neg e1]
          by_cases e2 : o = 2
          · simp [e2]
          · simp only [if_neg e2]
            rw [if_neg (by omega)]
  · refine ((((((h.sl.setOther n1.symm _).set (i * 4 + 2) _).set (i * 4 + 3) _).setOther n3 _).setOther n1.symm _)).congr fun o ho => ?_
    unfold slotF
    simp only [Sl.freed, upd]
    by_cases e3 : o = i * 4 + 3
    · simp only [e3, if_true]
      rw [if_neg (by omega), if_neg (by omega), if_neg (by omega), if_pos (by omega)]
    · rw [if_neg e3]
      by_cases e2 : o = i * 4 + 2
      · simp only [e2, if_true]
        rw [if_neg (by omega), if_neg (by omega), if_pos (by omega), if_pos (by omega)]
      · rw [if_neg e2]
        congr 1
        by_cases q0 : o % 4 = 0
        · simp [q0]
        · by_cases q1 : o % 4 = 1
          · rw [if_neg q0, if_pos q1, if_neg q0, if_pos q1]
          · by_cases q2 : o % 4 = 2
            · rw [if_neg q0, if_neg q1, if_pos q2, if_neg q0, if_neg q1, if_pos q2, if_neg (by omega)]
            · rw [if_neg q0, if_neg q1, if_neg q2, if_neg q0, if_neg q1, if_neg q2, if_neg (by omega)]
  · refine ((((((h.fr.setOther n2.symm _).setOther n3.symm _).setOther n3.symm _).set S.m _).setOther n2.symm _)).congr fun o ho => ?_
    simp only [freeF, Sl.freed, upd]
    by_cases e : o = S.m
    · simp [e]
    · rw [if_neg e, if_neg e]
/-- What Set's store makes. -/
theorem put (h : At w sb lb fb cap S) (i : Nat) (v : Int) : At (w.setCell ⟨lb, i * 4 + 3, none⟩ (.int .i64 v)) sb lb fb cap (S.put i v) := by
  have n1 := h.ne1
  have n3 := h.ne3
  refine ⟨h.hd.setOther n1 _, ?_, h.fr.setOther n3.symm _, h.nc⟩
  refine (h.sl.set (i * 4 + 3) _).congr fun o ho => ?_
  unfold slotF
  simp only [Sl.put, upd]
  by_cases e3 : o = i * 4 + 3
  · simp only [e3, if_true]
    rw [if_neg (by omega), if_neg (by omega), if_neg (by omega), if_pos (by omega)]
  · rw [if_neg e3]
    congr 1
    by_cases q0 : o % 4 = 0
    · simp [q0]
    · by_cases q1 : o % 4 = 1
      · rw [if_neg q0, if_pos q1, if_neg q0, if_pos q1]
      · by_cases q2 : o % 4 = 2
        · rw [if_neg q0, if_neg q1, if_pos q2, if_neg q0, if_neg q1, if_pos q2]
        · rw [if_neg q0, if_neg q1, if_neg q2, if_neg q0, if_neg q1, if_neg q2, if_neg (by omega)]
end At
end Go.Proofs.Ytegnbodolkaelaa
