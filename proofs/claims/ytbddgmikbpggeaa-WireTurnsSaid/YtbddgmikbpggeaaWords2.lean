/- More words on memory: a store into a slice of the call's own. -/
import Derived.Test.YtbddgmikbpggeaaWords
namespace Go.Proofs.Ytbddgmikbpggeaa
open Go.RowKit
set_option linter.unusedVariables false
set_option linter.unusedSimpArgs false

/-- An element of a slice of bytes of the call's own is read and written. -/
theorem OwnB.store {w : World} {base : Nat} {e : TypeId} {v : Value} {l : List Nat} (h : OwnB w base e v l) {k : Nat} (hk : k < l.length) :
    ∃ g cap, v = .slice (some ⟨g, 0, none⟩) l.length cap ∧ base ≤ g ∧ g < w.heap.size ∧ l.length ≤ cap ∧ w.cell? ⟨g, k, none⟩ = some (.int .u8 (l[k] : Int)) ∧ w.frozen? ⟨g, k, none⟩ = false ∧ l[k] < 256 ∧
      ∀ b : Nat, b < 256 → OwnB (w.setCell ⟨g, k, none⟩ (.int .u8 (b : Int))) base e v (l.set k b) := by
  rcases h.1.2 with ⟨hv, h0⟩ | ⟨g, cap, cur, hv, hg, hh, hn, hm, hs, ht⟩
  · omega
  · have hlt : g < w.heap.size := (Array.getElem?_eq_some_iff.1 hh).1
    have hcell := (World.ownsRow.cells h.1 (g := g) (by rw [hv]; rfl)) k (.int .u8 (l[k] : Int)) (by rw [u8s_get, List.getElem?_eq_getElem hk]; rfl)
    have e0 : (⟨g, 0, none⟩ : Addr).add k = ⟨g, k, none⟩ := by unfold Addr.add; split <;> simp_all
    rw [e0] at hcell
    refine ⟨g, cap, hv, hg, hlt, hn, hcell, frozen_of_row w g k cur e hh, h.2 _ (List.getElem_mem hk), fun b hb => ⟨⟨by simp [u8s], .inr ⟨g, cap, cur.setIfInBounds k (.int .u8 (b : Int)), by rw [List.length_set]; exact hv, hg, ?_, by rw [List.length_set]; exact hn, hm, by simpa using hs, ?_⟩⟩, ?_⟩⟩
    · have := heap_setCell_same w g k cur e (.int .u8 (b : Int)) hh
      exact this
    · rw [Array.toList_setIfInBounds, List.length_set, List.take_set, ht]
      simp [u8s, List.map_set]
    · intro x hx
      rcases List.mem_or_eq_of_mem_set hx with h1 | h1
      · exact h.2 x h1
      · omega

end Go.Proofs.Ytbddgmikbpggeaa
