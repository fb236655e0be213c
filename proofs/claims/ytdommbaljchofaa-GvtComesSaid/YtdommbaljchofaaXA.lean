/-
  The statements' world in memory: workers, open times, what is on its way, a master; and what is kept where something else is turned.
-/
import Derived.Test.YtdommbaljchofaaT
import Derived.Test.YtdommbaljchofaaF
namespace Go.Proofs.Ytdommbaljchofaa
open Go.RowKit Go.Deep
set_option linter.unusedVariables false

/-- What kind of block it is: the cells' type, or a map. -/
def kindOf (w : World) (b : Nat) : Option Nat :=
  match w.heap[b]? with
  | some (.cells _ t _) => some t
  | some (.map _ _) => some 1000000
  | _ => none
section
variable {w w' : World}
theorem kind_row {b t n : Nat} {f : Nat → Value} (r : w.rowIs b t n f) : kindOf w b = some t := by
  obtain ⟨c, h, _⟩ := r
  simp [kindOf, h]
theorem kind_owns {base : Nat} {e : TypeId} {size : Nat} {v : Value} {n : Nat} {xs : List Value} (r : w.ownsRow base e size v n xs) : ∀ g, v.ownBlock = some g → kindOf w g = some e := by
  intro g hg
  rcases r.2 with ⟨rfl, _⟩ | ⟨g', cap, cur, rfl, _, h, _⟩
  · simp [Value.ownBlock] at hg
  · simp [Value.ownBlock] at hg
    subst hg
    simp [kindOf, h]
theorem kind_map {H : Type} {P : Program} {k : TypeId} {R : Value → Option (DataW H × List MemPlace)} {mb n : Nat} {D : DataW H} (r : w.ownsMap P k R mb n D) : kindOf w mb = some 1000000 := by
  obtain ⟨es, clock, h, _⟩ := r
  simp [kindOf, h]
theorem off_kind {s Ts : List Nat} (hS : ∀ b ∈ s, ∃ T ∈ Ts, kindOf w b = some T) {b t : Nat} (hb : kindOf w b = some t) (ht : t ∉ Ts) : b ∉ s := by
  intro hm
  obtain ⟨T, hT, e⟩ := hS b hm
  rw [hb] at e
  injection e with e
  exact ht (e ▸ hT)
end

/-- What is on its way. -/
structure Pk where
  kind : Int
  fr : Int
  dst : Int
  no : Int
  tm : Int
def Pk.cells (p : Pk) : List Value := [.int .i64 p.kind, .int .i64 p.fr, .int .i64 p.dst, .int .i64 p.no, .int .i64 p.tm]
/-- A worker of it: its blocks, what it is. -/
structure WK where
  wb : Nat
  mb : Nat
  nn : Nat
  s : WS
def WK.ptr (k : WK) : Value := .pointer (some ⟨k.wb, 0, none⟩)
/-- A worker's open times: where they lie, and they. -/
structure OK where
  A : Option Addr
  c : Nat
  L : List Int
def OK.val (o : OK) : Value := .slice o.A o.L.length o.c
structure XS where
  qb : Nat
  tb : Nat
  kv : Option Addr
  kc : Nat
  ov : Option Addr
  oc : Nat
  lv : Option Addr
  lc : Nat
  K : List WK
  O : List OK
  l : List Pk
  n : Nat
  rd : Int
  told : Nat → Bool
  run : Bool
  least : Int
  time : Int
  sent : Int
def xF (x : XS) (o : Nat) : Value :=
  if o = 0 then .slice x.kv x.K.length x.kc else if o = 1 then .slice x.ov x.O.length x.oc else if o = 2 then .slice x.lv x.l.length x.lc else if o = 3 then .pointer (some ⟨x.qb, 0, none⟩) else if o = 4 then .int .i64 x.sent else .bool false
structure XAt (W w : World) (xb : Nat) (x : XS) : Prop where
  bl : Below W.heap.size W w
  hd : w.rowIs xb 54 6 (xF x)
  xb : W.heap.size ≤ xb
  kr : w.ownsRow W.heap.size 23 1 (.slice x.kv x.K.length x.kc) x.K.length (x.K.map WK.ptr)
  ow : w.ownsRow W.heap.size 28 1 (.slice x.ov x.O.length x.oc) x.O.length (x.O.map OK.val)
  lr : w.ownsRow W.heap.size 79 5 (.slice x.lv x.l.length x.lc) x.l.length (x.l.flatMap Pk.cells)
  ka : ∀ k ∈ x.K, WAt w k.wb k.mb k.nn k.s.rd k.s.lo k.s.M
  kb : ∀ k ∈ x.K, W.heap.size ≤ k.wb ∧ W.heap.size ≤ k.mb
  kne : x.K.Pairwise (fun a b => a.wb ≠ b.wb ∧ a.mb ≠ b.mb)
  oa : ∀ o ∈ x.O, OwnsI w W.heap.size o.A o.c o.L
  one : x.O.Pairwise (fun a b => ∀ g, a.val.ownBlock = some g → b.val.ownBlock ≠ some g)
  ma : MAt w x.qb x.tb x.n x.rd x.told x.run x.least x.time
  mb1 : W.heap.size ≤ x.qb
  mb2 : W.heap.size ≤ x.tb
structure Frame (W w' : World) (xb : Nat) (x : XS) (Ts : List Nat) : Prop where
  bl : Below W.heap.size W w'
  hd : 54 ∉ Ts → w'.rowIs xb 54 6 (xF x)
  kr : 23 ∉ Ts → w'.ownsRow W.heap.size 23 1 (.slice x.kv x.K.length x.kc) x.K.length (x.K.map WK.ptr)
  ow : 28 ∉ Ts → w'.ownsRow W.heap.size 28 1 (.slice x.ov x.O.length x.oc) x.O.length (x.O.map OK.val)
  lr : 79 ∉ Ts → w'.ownsRow W.heap.size 79 5 (.slice x.lv x.l.length x.lc) x.l.length (x.l.flatMap Pk.cells)
  ka : 70 ∉ Ts → 1000000 ∉ Ts → ∀ k ∈ x.K, WAt w' k.wb k.mb k.nn k.s.rd k.s.lo k.s.M
  oa : 3 ∉ Ts → ∀ o ∈ x.O, OwnsI w' W.heap.size o.A o.c o.L
  ma : 77 ∉ Ts → 4 ∉ Ts → MAt w' x.qb x.tb x.n x.rd x.told x.run x.least x.time
namespace XAt
variable {W w w' : World} {xb : Nat} {x : XS} {s Ts : List Nat}
theorem frame (h : XAt W w xb x) (k : Only s w w') (hB : ∀ b ∈ s, W.heap.size ≤ b) (hS : ∀ b ∈ s, ∃ T ∈ Ts, kindOf w b = some T) : Frame W w' xb x Ts := by
  refine ⟨Only.to_below h.bl k hB h.bl.size, fun ht => k.row h.hd (off_kind hS (kind_row h.hd) ht), fun ht => k.owns h.kr fun b hb => off_kind hS (kind_owns h.kr b hb) ht, fun ht => k.owns h.ow fun b hb => off_kind hS (kind_owns h.ow b hb) ht, fun ht => k.owns h.lr fun b hb => off_kind hS (kind_owns h.lr b hb) ht, fun h1 h2 q hq => ?_, fun ht o ho => k.owns (h.oa o ho) fun b hb => off_kind hS (kind_owns (h.oa o ho) b hb) ht, fun h1 h2 => h.ma.only k (off_kind hS (kind_row h.ma.hd) h1) (off_kind hS (kind_row h.ma.tl) h2)⟩
  obtain ⟨D, hD, hR⟩ := (h.ka q hq).mp
  exact (h.ka q hq).only k (off_kind hS (kind_row (h.ka q hq).hd) h1) (off_kind hS (kind_map hD) h2)
theorem quiet (h : XAt W w xb x) (k : Only [] w w') : XAt W w' xb x := by
  have f := h.frame (Ts := []) k (by simp) (by simp)
  exact ⟨f.bl, f.hd (by simp), h.xb, f.kr (by simp), f.ow (by simp), f.lr (by simp), f.ka (by simp) (by simp), h.kb, h.kne, f.oa (by simp), h.one, f.ma (by simp) (by simp), h.mb1, h.mb2⟩
theorem c0 (h : XAt W w xb x) : w.cell? ⟨xb, 0, none⟩ = some (.slice x.kv x.K.length x.kc) := h.hd.cell (by omega)
theorem c1 (h : XAt W w xb x) : w.cell? ⟨xb, 1, none⟩ = some (.slice x.ov x.O.length x.oc) := h.hd.cell (by omega)
theorem c2 (h : XAt W w xb x) : w.cell? ⟨xb, 2, none⟩ = some (.slice x.lv x.l.length x.lc) := h.hd.cell (by omega)
theorem c3 (h : XAt W w xb x) : w.cell? ⟨xb, 3, none⟩ = some (.pointer (some ⟨x.qb, 0, none⟩)) := h.hd.cell (by omega)
theorem c4 (h : XAt W w xb x) : w.cell? ⟨xb, 4, none⟩ = some (.int .i64 x.sent) := h.hd.cell (by omega)
theorem c5 (h : XAt W w xb x) : w.cell? ⟨xb, 5, none⟩ = some (.bool false) := h.hd.cell (by omega)
theorem z (h : XAt W w xb x) (o : Nat) : w.frozen? ⟨xb, o, none⟩ = false := h.hd.frozen o
theorem lt (h : XAt W w xb x) : xb < w.heap.size := h.hd.lt
end XAt
end Go.Proofs.Ytdommbaljchofaa
