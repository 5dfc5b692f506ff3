/- Boxes whose cells are stored anew. -/
import Derived.Test.YtcdflpkbdabljaaDoorE2
open Alg Go Go.RowKit
namespace Alg
theorem setCell_cell (W : World) (b i : Nat) (u v : Value) (h : W.cell? ⟨b, i, none⟩ = some v) : (W.setCell ⟨b, i, none⟩ u).cell? ⟨b, i, none⟩ = some u := by
  simp [go_sem, h]
theorem setCell_off (W : World) (b i m : Nat) (u : Value) (h : m ≠ i) : (W.setCell ⟨b, i, none⟩ u).cell? ⟨b, m, none⟩ = W.cell? ⟨b, m, none⟩ := by
  simp [go_sem]
theorem Boxes.putCell {w W : World} {L : List (Array Value)} (h : Boxes w W L) {j : Nat} {cs : Array Value} (hj : L[j]? = some cs) (i : Nat) (hi : i < cs.size) (u : Value) :
    Boxes w (W.setCell ⟨w.heap.size + j, i, none⟩ u) (L.set j (cs.setIfInBounds i u)) where
  below := h.below.setCell (p := ⟨w.heap.size + j, i, none⟩) (by show w.heap.size ≤ w.heap.size + j; omega) u
  size := by
    have := h.size
    simp only [World.setCell, Array.size_modify, List.length_set]; omega
  cell' := fun k m ds v h1 h2 => by
    by_cases e : k = j
    · subst e
      have hk : k < L.length := by
        rcases Nat.lt_or_ge k L.length with h3 | h3
        · exact h3
        · rw [List.getElem?_eq_none h3] at hj; exact absurd hj (by simp)
      rw [List.getElem?_set_self hk] at h1
      have e2 : cs.setIfInBounds i u = ds := by simpa using h1
      subst e2
      by_cases em : m = i
      · subst em
        have h4 : (cs.setIfInBounds m u)[m]? = some u := by simp [hi]
        rw [h4] at h2
        have e3 : u = v := by simpa using h2
        subst e3
        exact setCell_cell W _ _ _ cs[m] (h.cell' k m cs _ hj (by simp [hi]))
      · rw [setCell_off _ _ _ _ _ em]
        have h4 : (cs.setIfInBounds i u)[m]? = cs[m]? := by
          rw [Array.getElem?_setIfInBounds_ne (fun e => em e.symm)]
        rw [h4] at h2
        exact h.cell' k m cs v hj h2
    · rw [List.getElem?_set_ne (fun e2 => e e2.symm)] at h1
      exact (World.cell?_of_block (w := W) (Below.heap_setCell W ⟨w.heap.size + j, i, none⟩ u _ (by show w.heap.size + k ≠ w.heap.size + j; omega))).trans (h.cell' k m ds v h1 h2)
  frozen' := fun k m h1 => by
    rw [List.length_set] at h1
    have h2 := h.frozen' k m h1
    rw [← h2]
    simp [go_sem]
end Alg
