/-
  The statements' world is made: a worker more, a list more.
-/
import Derived.Test.YtdommbaljchofaaXE
namespace Go.Proofs.Ytdommbaljchofaa
open Go.RowKit Go.Deep
set_option linter.unusedVariables false

theorem pw_snoc {α : Type} {R : α → α → Prop} {l : List α} {a : α} (h : l.Pairwise R) (ha : ∀ b ∈ l, R b a) : (l ++ [a]).Pairwise R := by
  refine List.pairwise_append.2 ⟨h, by simp, fun b hb c hc => ?_⟩
  simp only [List.mem_singleton] at hc
  subst hc
  exact ha b hb
namespace XAt
variable {W w w' : World} {xb : Nat} {x : XS}
theorem addWorker (h : XAt W w xb x) {wb mb : Nat} (hw : WAt w wb mb 0 0 Never []) (b1 : W.heap.size ≤ wb) (b2 : W.heap.size ≤ mb) (hne : ∀ k ∈ x.K, k.wb ≠ wb ∧ k.mb ≠ mb) {A' : Option Addr} {c' : Nat}
    (hown : w'.ownsRow W.heap.size 23 1 (.slice A' (x.K.length + 1) c') (x.K.length + 1) (x.K.map WK.ptr ++ [.pointer (some ⟨wb, 0, none⟩)])) (hO : Only (ob x.kv x.K.length x.kc) w w') :
    XAt W (w'.setCell ⟨xb, 0, none⟩ (.slice A' (x.K.length + 1) c')) xb { x with kv := A', kc := c', K := x.K ++ [⟨wb, mb, 0, ⟨0, Never, []⟩⟩] } := by
  obtain ⟨D, hD, _⟩ := hw.mp
  have f0 := h.frame (Ts := [23]) hO (own_ge' h.kr) (fun b hb => ⟨23, by simp, own_kind' h.kr b hb⟩)
  have hS : ∀ b ∈ xb :: ob x.kv x.K.length x.kc, ∃ T ∈ [54, 23], kindOf w b = some T := by
    intro b hb
    simp only [List.mem_cons] at hb
    rcases hb with rfl | hb
    · exact ⟨54, by simp, kind_row h.hd⟩
    · exact ⟨23, by simp, own_kind' h.kr b hb⟩
  have hO2 : Only (xb :: ob x.kv x.K.length x.kc) w (w'.setCell ⟨xb, 0, none⟩ (.slice A' (x.K.length + 1) c')) := (hO.mono (by intro i hi; simp [hi])).setIn (by simp) _
  have f := h.frame (Ts := [54, 23]) hO2 (by
      intro b hb
      simp only [List.mem_cons] at hb
      rcases hb with rfl | hb
      · exact h.xb
      · exact own_ge' h.kr b hb) hS
  have hd' := f0.hd (by decide)
  refine ⟨f.bl, (hd'.set 0 _).congr fun o ho => ?_, h.xb, ?_, f.ow (by decide), f.lr (by decide), ?_, ?_, ?_, f.oa (by decide), h.one, f.ma (by decide) (by decide), h.mb1, h.mb2⟩
  · rcases (show o = 0 ∨ o = 1 ∨ o = 2 ∨ o = 3 ∨ o = 4 ∨ o = 5 by omega) with rfl | rfl | rfl | rfl | rfl | rfl <;> simp [xF]
  · have h' := own_far hown (b := xb) (o := 0) (fun e => owns_row_ne hown hd' (by decide) xb e rfl) (.slice A' (x.K.length + 1) c')
    simpa [WK.ptr] using h'
  · intro k hk
    simp only [List.mem_append, List.mem_singleton] at hk
    rcases hk with hk | rfl
    · exact f.ka (by decide) (by decide) k hk
    · exact hw.only hO2 (off_kind hS (kind_row hw.hd) (by decide)) (off_kind hS (kind_map hD) (by decide))
  · intro k hk
    simp only [List.mem_append, List.mem_singleton] at hk
    rcases hk with hk | rfl
    · exact h.kb k hk
    · exact ⟨b1, b2⟩
  · exact pw_snoc h.kne hne
theorem addOpen (h : XAt W w xb x) {N A' : Option Addr} {d c' : Nat} {L : List Int} (hN : OwnsI w W.heap.size N d L) (hne : ∀ o ∈ x.O, ∀ g, o.val.ownBlock = some g → (Value.slice N L.length d).ownBlock ≠ some g)
    (hown : w'.ownsRow W.heap.size 28 1 (.slice A' (x.O.length + 1) c') (x.O.length + 1) (x.O.map OK.val ++ [.slice N L.length d])) (hO : Only (ob x.ov x.O.length x.oc) w w') :
    XAt W (w'.setCell ⟨xb, 1, none⟩ (.slice A' (x.O.length + 1) c')) xb { x with ov := A', oc := c', O := x.O ++ [⟨N, d, L⟩] } := by
  have f0 := h.frame (Ts := [28]) hO (own_ge' h.ow) (fun b hb => ⟨28, by simp, own_kind' h.ow b hb⟩)
  have hS : ∀ b ∈ xb :: ob x.ov x.O.length x.oc, ∃ T ∈ [54, 28], kindOf w b = some T := by
    intro b hb
    simp only [List.mem_cons] at hb
    rcases hb with rfl | hb
    · exact ⟨54, by simp, kind_row h.hd⟩
    · exact ⟨28, by simp, own_kind' h.ow b hb⟩
  have hO2 : Only (xb :: ob x.ov x.O.length x.oc) w (w'.setCell ⟨xb, 1, none⟩ (.slice A' (x.O.length + 1) c')) := (hO.mono (by intro i hi; simp [hi])).setIn (by simp) _
  have f := h.frame (Ts := [54, 28]) hO2 (by
      intro b hb
      simp only [List.mem_cons] at hb
      rcases hb with rfl | hb
      · exact h.xb
      · exact own_ge' h.ow b hb) hS
  have hd' := f0.hd (by decide)
  refine ⟨f.bl, (hd'.set 1 _).congr fun o ho => ?_, h.xb, f.kr (by decide), ?_, f.lr (by decide), f.ka (by decide) (by decide), h.kb, h.kne, ?_, ?_, f.ma (by decide) (by decide), h.mb1, h.mb2⟩
  · rcases (show o = 0 ∨ o = 1 ∨ o = 2 ∨ o = 3 ∨ o = 4 ∨ o = 5 by omega) with rfl | rfl | rfl | rfl | rfl | rfl <;> simp [xF]
  · have h' := own_far hown (b := xb) (o := 1) (fun e => owns_row_ne hown hd' (by decide) xb e rfl) (.slice A' (x.O.length + 1) c')
    simpa [OK.val] using h'
  · intro o ho
    simp only [List.mem_append, List.mem_singleton] at ho
    rcases ho with ho | rfl
    · exact f.oa (by decide) o ho
    · exact hO2.owns hN (fun b hb => off_kind hS (kind_owns hN b hb) (by decide))
  · exact pw_snoc h.one hne
end XAt
end Go.Proofs.Ytdommbaljchofaa
