/- Boxes that are stored anew one behind another. -/
import Derived.Test.YtcefhnmhcapccaaDoorW27
import Derived.Test.YtcefhnmhcapccaaDoorS1
open Alg Go Go.RowKit
namespace Alg
/-- a polynomial that lies in block b -/
def Pv (W : World) (b p : Nat) (R : List Nat) (l : List Nat) : Prop := ∃ a n c, Box W b #[.int .u32 (p : Int), .slice a n c] ∧ Sl W a n c l ∧ Offs R a n
theorem Pv.mono {W W' : World} {b p : Nat} {R l : List Nat} (h : Pv W b p R l) (hb : Below W.heap.size W W') : Pv W' b p R l := by
  obtain ⟨a, n, c, h1, h2, h3⟩ := h
  exact ⟨a, n, c, h1.mono hb, h2.mono hb, h3⟩
abbrev set2 (W : World) (b : Nat) (v0 v1 : Value) : World := (W.setCell ⟨b, 0, none⟩ v0).setCell ⟨b, 1, none⟩ v1
theorem Pv.other {W : World} {b p : Nat} {R l : List Nat} (h : Pv W b p R l) {c : Nat} (hc : c ∈ R) (hne : b ≠ c) (v0 v1 : Value) : Pv (set2 W c v0 v1) b p R l := by
  obtain ⟨a, n, cc, h1, h2, h3⟩ := h
  exact ⟨a, n, cc, (h1.other 0 hne v0).other 1 hne v1, (h2.setCell (h3 c hc) v0).setCell (h3 c hc) v1, h3⟩
theorem Pv.put {W : World} {b p : Nat} {R l : List Nat} {u0 u1 : Value} {a : Option Addr} {n c : Nat} (h : Box W b #[u0, u1]) (s : Sl W a n c l) (o : Offs R a n) (hb : b ∈ R) : Pv (set2 W b (.int .u32 (p : Int)) (.slice a n c)) b p R l :=
  ⟨a, n, c, h.put2 _ _, (s.setCell (o b hb) _).setCell (o b hb) _, o⟩
theorem Box.two {W : World} {b : Nat} {u0 u1 : Value} (h : Box W b #[u0, u1]) :
    W.cell? ⟨b, 0, none⟩ = some u0 ∧ W.cell? ⟨b, 1, none⟩ = some u1 ∧ W.frozen? ⟨b, 0, none⟩ = false ∧ W.frozen? ⟨b, 1, none⟩ = false := ⟨h.cell 0 _ rfl, h.cell 1 _ rfl, h.frozen 0, h.frozen 1⟩
theorem Boxes.set2 {w W : World} {L : List (Array Value)} (h : Boxes w W L) {b : Nat} (hb : w.heap.size + L.length ≤ b) (v0 v1 : Value) : Boxes w (set2 W b v0 v1) L := (h.setCell hb v0).setCell hb v1
theorem bset {W w1 : World} (h : Below W.heap.size W w1) {g i : Nat} (hg : W.heap.size ≤ g) (u : Value) : Below W.heap.size W (w1.setCell ⟨g, i, none⟩ u) := h.setCell (p := ⟨g, i, none⟩) hg u
theorem Sl.set2 {W : World} {a : Option Addr} {n cap : Nat} {l : List Nat} (h : Sl W a n cap l) {b : Nat} (ho : Off a n b) (v0 v1 : Value) : Sl (set2 W b v0 v1) a n cap l := (h.setCell ho v0).setCell ho v1
structure St (w W : World) (L : List (Array Value)) (p : Nat) (R : List Nat) (bs : List (Nat × List Nat)) : Prop where
  boxes : Boxes w W L
  nd : (bs.map Prod.fst).Nodup
  pv : ∀ (k b : Nat) (l : List Nat), bs[k]? = some (b, l) → Pv W b p R l
theorem St.step {w W : World} {L : List (Array Value)} {p : Nat} {R : List Nat} {bs : List (Nat × List Nat)} (h : St w W L p R bs) (i j : Nat) {t s : Nat} {lt ls : List Nat}
    (hi : bs[i]? = some (t, lt)) (hj : bs[j]? = some (s, ls)) (ht : t ∈ R) (hL : w.heap.size + L.length ≤ t) :
    ∃ a n c v, W.cell? ⟨s, 0, none⟩ = some (.int .u32 (p : Int)) ∧ W.cell? ⟨s, 1, none⟩ = some (.slice a n c) ∧ W.cell? ⟨t, 0, none⟩ = some (.int .u32 (p : Int)) ∧ W.cell? ⟨t, 1, none⟩ = some v ∧
      W.frozen? ⟨t, 0, none⟩ = false ∧ W.frozen? ⟨t, 1, none⟩ = false ∧ St w ((W.setCell ⟨t, 0, none⟩ (.int .u32 (p : Int))).setCell ⟨t, 1, none⟩ (.slice a n c)) L p R (bs.set i (t, ls)) := by
  obtain ⟨a, n, c, bS, sS, oS⟩ := h.pv _ _ _ hj
  obtain ⟨a', n', c', bT, _, _⟩ := h.pv _ _ _ hi
  obtain ⟨q0, q1, _, _⟩ := bS.two
  obtain ⟨r0, r1, z0, z1⟩ := bT.two
  have hil : i < bs.length := by
    rcases Nat.lt_or_ge i bs.length with h | h
    · exact h
    · rw [List.getElem?_eq_none h] at hi; cases hi
  have hmap : (bs.set i (t, ls)).map Prod.fst = bs.map Prod.fst := by
    apply List.ext_getElem?
    intro k
    rw [List.getElem?_map, List.getElem?_map, List.getElem?_set]
    by_cases hk : i = k
    · subst hk
      rw [hi]; simp [hil]
    · simp [hk]
  refine ⟨a, n, c, _, q0, q1, r0, r1, z0, z1, h.boxes.set2 hL _ _, by rw [hmap]; exact h.nd, ?_⟩
  intro k b l hk
  rw [List.getElem?_set] at hk
  by_cases hik : i = k
  · subst hik
    rw [if_pos rfl, if_pos hil] at hk
    obtain ⟨rfl, rfl⟩ : t = b ∧ ls = l := by simpa using hk
    exact Pv.put bT sS oS ht
  · rw [if_neg hik] at hk
    refine (h.pv _ _ _ hk).other ht ?_ _ _
    intro hbt
    apply hik
    refine (List.getElem?_inj (l := bs.map Prod.fst) (by simpa using hil) h.nd).mp ?_
    rw [List.getElem?_map, List.getElem?_map, hi, hk, hbt]
    try rfl
end Alg
