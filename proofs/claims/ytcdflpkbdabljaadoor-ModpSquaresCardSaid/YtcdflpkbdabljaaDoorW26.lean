/- One boxed variable: its cells; a polynomial with its cofactors in a box. -/
import Derived.Test.YtcdflpkbdabljaaDoorW25
import Derived.Test.YtcdflpkbdabljaaDoorA10
open Alg Go Go.RowKit
namespace Alg
/-- block b holds these cells, and may be written -/
structure Box (W : World) (b : Nat) (cs : Array Value) : Prop where
  lt : b < W.heap.size
  cell : ∀ i v, cs[i]? = some v → W.cell? ⟨b, i, none⟩ = some v
  frozen : ∀ i, W.frozen? ⟨b, i, none⟩ = false
theorem Box.new (W : World) (cs : Array Value) (T : TypeId) : Box (W.alloc (.cells cs T)) W.heap.size cs :=
  ⟨by rw [World.size_alloc]; omega, fun i v h => by rw [cell_box]; exact h, fun i => frozen_box cs T _ i rfl⟩
theorem Box.mono {W W' : World} {b : Nat} {cs : Array Value} (h : Box W b cs) (hb : Below W.heap.size W W') : Box W' b cs where
  lt := Nat.lt_of_lt_of_le h.lt hb.size
  cell := fun i v h1 => (hb.cell (p := ⟨b, i, none⟩) h.lt).trans (h.cell i v h1)
  frozen := fun i => (hb.frozen (p := ⟨b, i, none⟩) h.lt).trans (h.frozen i)
theorem Box.drew {W : World} {b : Nat} {cs : Array Value} (h : Box W b cs) : Box W.drew b cs := h.mono ⟨rfl, rfl, rfl, Nat.le_refl _, fun _ _ => rfl⟩
theorem Box.alloc {W : World} {b : Nat} {cs : Array Value} (h : Box W b cs) (o : Obj) : Box (W.alloc o) b cs := h.mono ((Below.refl _ W).alloc (Nat.le_refl _) o)
/-- a store elsewhere -/
theorem Box.other {W : World} {b : Nat} {cs : Array Value} (h : Box W b cs) {g : Nat} (i : Nat) (hne : b ≠ g) (u : Value) : Box (W.setCell ⟨g, i, none⟩ u) b cs where
  lt := by simp only [World.setCell, Array.size_modify]; exact h.lt
  cell := fun j v h1 => (World.cell?_of_block (w := W) (Below.heap_setCell W ⟨g, i, none⟩ u _ (by show b ≠ g; exact hne))).trans (h.cell j v h1)
  frozen := fun j => (World.frozen?_of_block (w := W) (Below.heap_setCell W ⟨g, i, none⟩ u _ (by show b ≠ g; exact hne))).trans (h.frozen j)
/-- a store into it -/
theorem Box.put {W : World} {b : Nat} {cs : Array Value} (h : Box W b cs) (i : Nat) (hi : i < cs.size) (u : Value) : Box (W.setCell ⟨b, i, none⟩ u) b (cs.setIfInBounds i u) where
  lt := by simp only [World.setCell, Array.size_modify]; exact h.lt
  cell := fun m v h2 => by
    by_cases em : m = i
    · subst em
      have h4 : (cs.setIfInBounds m u)[m]? = some u := by simp [hi]
      rw [h4] at h2
      have e3 : u = v := by simpa using h2
      subst e3
      exact setCell_cell W _ _ _ cs[m] (h.cell m _ (by simp [hi]))
    · rw [setCell_off _ _ _ _ _ em]
      have h4 : (cs.setIfInBounds i u)[m]? = cs[m]? := by
        rw [Array.getElem?_setIfInBounds_ne (fun e => em e.symm)]
      rw [h4] at h2
      exact h.cell m v h2
  frozen := fun m => by
    have h2 := h.frozen m
    rw [← h2]
    simp [go_sem]
theorem Box.put2 {W : World} {b : Nat} {u0 u1 : Value} (h : Box W b #[u0, u1]) (v0 v1 : Value) :
    Box ((W.setCell ⟨b, 0, none⟩ v0).setCell ⟨b, 1, none⟩ v1) b #[v0, v1] :=
  (h.put 0 (by simp) v0).put 1 (by simp) v1
theorem Box.put6 {W : World} {b : Nat} {u0 u1 u2 u3 u4 u5 : Value} (h : Box W b #[u0, u1, u2, u3, u4, u5]) (v0 v1 v2 v3 v4 v5 : Value) :
    Box ((((((W.setCell ⟨b, 0, none⟩ v0).setCell ⟨b, 1, none⟩ v1).setCell ⟨b, 2, none⟩ v2).setCell ⟨b, 3, none⟩ v3).setCell ⟨b, 4, none⟩ v4).setCell ⟨b, 5, none⟩ v5) b #[v0, v1, v2, v3, v4, v5] :=
  (((((h.put 0 (by simp) v0).put 1 (by simp) v1).put 2 (by simp) v2).put 3 (by simp) v3).put 4 (by simp) v4).put 5 (by simp) v5
/-- six stores into one block: what lies elsewhere stands -/
abbrev set6 (W : World) (b : Nat) (v0 v1 v2 v3 v4 v5 : Value) : World :=
  (((((W.setCell ⟨b, 0, none⟩ v0).setCell ⟨b, 1, none⟩ v1).setCell ⟨b, 2, none⟩ v2).setCell ⟨b, 3, none⟩ v3).setCell ⟨b, 4, none⟩ v4).setCell ⟨b, 5, none⟩ v5
theorem Box.other6 {W : World} {c : Nat} {cs : Array Value} (h : Box W c cs) {b : Nat} (hne : c ≠ b) (v0 v1 v2 v3 v4 v5 : Value) : Box (set6 W b v0 v1 v2 v3 v4 v5) c cs :=
  (((((h.other 0 hne v0).other 1 hne v1).other 2 hne v2).other 3 hne v3).other 4 hne v4).other 5 hne v5
theorem Sl.set6 {W : World} {a : Option Addr} {n cap : Nat} {l : List Nat} (h : Sl W a n cap l) {b : Nat} (ho : Off a n b) (v0 v1 v2 v3 v4 v5 : Value) : Sl (set6 W b v0 v1 v2 v3 v4 v5) a n cap l :=
  (((((h.setCell ho v0).setCell ho v1).setCell ho v2).setCell ho v3).setCell ho v4).setCell ho v5
theorem Boxes.set6 {w W : World} {L : List (Array Value)} (h : Boxes w W L) {b : Nat} (hb : w.heap.size + L.length ≤ b) (v0 v1 v2 v3 v4 v5 : Value) : Boxes w (set6 W b v0 v1 v2 v3 v4 v5) L :=
  (((((h.setCell hb v0).setCell hb v1).setCell hb v2).setCell hb v3).setCell hb v4).setCell hb v5
theorem Below.set6 {n : Nat} {w W : World} (h : Below n w W) {b : Nat} (hb : n ≤ b) (v0 v1 v2 v3 v4 v5 : Value) : Below n w (set6 W b v0 v1 v2 v3 v4 v5) :=
  (((((h.setCell (p := ⟨b, 0, none⟩) hb v0).setCell (p := ⟨b, 1, none⟩) hb v1).setCell (p := ⟨b, 2, none⟩) hb v2).setCell (p := ⟨b, 3, none⟩) hb v3).setCell (p := ⟨b, 4, none⟩) hb v4).setCell (p := ⟨b, 5, none⟩) hb v5
/-- three slices -/
structure Sl3 (W : World) (a1 : Option Addr) (n1 c1 : Nat) (a2 : Option Addr) (n2 c2 : Nat) (a3 : Option Addr) (n3 c3 : Nat) (x : T3) : Prop where
  g : Sl W a1 n1 c1 x.G
  u : Sl W a2 n2 c2 x.U
  v : Sl W a3 n3 c3 x.V
theorem Sl3.mono {W W' : World} {a1 a2 a3 : Option Addr} {n1 n2 n3 c1 c2 c3 : Nat} {x : T3} (h : Sl3 W a1 n1 c1 a2 n2 c2 a3 n3 c3 x) (hb : Below W.heap.size W W') : Sl3 W' a1 n1 c1 a2 n2 c2 a3 n3 c3 x :=
  ⟨h.g.mono hb, h.u.mono hb, h.v.mono hb⟩
theorem Sl3.set6 {W : World} {a1 a2 a3 : Option Addr} {n1 n2 n3 c1 c2 c3 : Nat} {x : T3} (h : Sl3 W a1 n1 c1 a2 n2 c2 a3 n3 c3 x) {b : Nat} (h1 : Off a1 n1 b) (h2 : Off a2 n2 b) (h3 : Off a3 n3 b) (v0 v1 v2 v3 v4 v5 : Value) :
    Sl3 (set6 W b v0 v1 v2 v3 v4 v5) a1 n1 c1 a2 n2 c2 a3 n3 c3 x := ⟨h.g.set6 h1 _ _ _ _ _ _, h.u.set6 h2 _ _ _ _ _ _, h.v.set6 h3 _ _ _ _ _ _⟩
/-- it lies in none of these blocks -/
def Offs (R : List Nat) (a : Option Addr) (n : Nat) : Prop := ∀ r, r ∈ R → Off a n r
theorem Offs.fresh {w : World} {a : Option Addr} {n : Nat} {R : List Nat} (h : Prov w [] a n) (hr : ∀ r, r ∈ R → r < w.heap.size) : Offs R a n := fun r hm => h.off0 (hr r hm)
theorem Offs.old {w : World} {a : Option Addr} {n cap : Nat} {l : List Nat} {R : List Nat} (h : Sl w a n cap l) (hr : ∀ r, r ∈ R → w.heap.size ≤ r) : Offs R a n := fun r hm => h.off (hr r hm)
theorem Offs.cons {a : Option Addr} {n r : Nat} {R : List Nat} (h : Off a n r) (hR : Offs R a n) : Offs (r :: R) a n := fun x hx => by
  rcases List.mem_cons.1 hx with rfl | hx
  · exact h
  · exact hR x hx
/-- the values of a triple in a box -/
abbrev tri (p : Nat) (a1 : Option Addr) (n1 c1 : Nat) (a2 : Option Addr) (n2 c2 : Nat) (a3 : Option Addr) (n3 c3 : Nat) : Array Value :=
  #[.int .u32 (p : Int), .slice a1 n1 c1, .int .u32 (p : Int), .slice a2 n2 c2, .int .u32 (p : Int), .slice a3 n3 c3]
theorem Box.six {W : World} {b : Nat} {u0 u1 u2 u3 u4 u5 : Value} (h : Box W b #[u0, u1, u2, u3, u4, u5]) :
    (W.cell? ⟨b, 0, none⟩ = some u0 ∧ W.cell? ⟨b, 1, none⟩ = some u1 ∧ W.cell? ⟨b, 2, none⟩ = some u2 ∧ W.cell? ⟨b, 3, none⟩ = some u3 ∧ W.cell? ⟨b, 4, none⟩ = some u4 ∧ W.cell? ⟨b, 5, none⟩ = some u5) ∧
    (W.frozen? ⟨b, 0, none⟩ = false ∧ W.frozen? ⟨b, 1, none⟩ = false ∧ W.frozen? ⟨b, 2, none⟩ = false ∧ W.frozen? ⟨b, 3, none⟩ = false ∧ W.frozen? ⟨b, 4, none⟩ = false ∧ W.frozen? ⟨b, 5, none⟩ = false) :=
  ⟨⟨h.cell 0 _ rfl, h.cell 1 _ rfl, h.cell 2 _ rfl, h.cell 3 _ rfl, h.cell 4 _ rfl, h.cell 5 _ rfl⟩, h.frozen 0, h.frozen 1, h.frozen 2, h.frozen 3, h.frozen 4, h.frozen 5⟩
theorem Box.new' (W : World) (cs : Array Value) (T : TypeId) {b : Nat} (h : b = W.heap.size) : Box (W.alloc (.cells cs T)) b cs := by subst h; exact Box.new W cs T
/-- a triple that lies in block b; its slices lie in none of the blocks R -/
def Tri (W : World) (b p : Nat) (R : List Nat) (x : T3) : Prop :=
  ∃ a1 n1 c1 a2 n2 c2 a3 n3 c3, Box W b (tri p a1 n1 c1 a2 n2 c2 a3 n3 c3) ∧ Sl3 W a1 n1 c1 a2 n2 c2 a3 n3 c3 x ∧ Offs R a1 n1 ∧ Offs R a2 n2 ∧ Offs R a3 n3
theorem Tri.of_set {W : World} {b p : Nat} {R : List Nat} {x : T3} {u0 u1 u2 u3 u4 u5 : Value} {a1 a2 a3 : Option Addr} {n1 n2 n3 c1 c2 c3 : Nat} (h : Box W b #[u0, u1, u2, u3, u4, u5]) (s : Sl3 W a1 n1 c1 a2 n2 c2 a3 n3 c3 x)
    (hb : b ∈ R) (o1 : Offs R a1 n1) (o2 : Offs R a2 n2) (o3 : Offs R a3 n3) :
    Tri (set6 W b (.int .u32 (p : Int)) (.slice a1 n1 c1) (.int .u32 (p : Int)) (.slice a2 n2 c2) (.int .u32 (p : Int)) (.slice a3 n3 c3)) b p R x :=
  ⟨a1, n1, c1, a2, n2, c2, a3, n3, c3, h.put6 _ _ _ _ _ _, s.set6 (o1 b hb) (o2 b hb) (o3 b hb) _ _ _ _ _ _, o1, o2, o3⟩
theorem Tri.of_new {W : World} {b p : Nat} {R : List Nat} {x : T3} {a1 a2 a3 : Option Addr} {n1 n2 n3 c1 c2 c3 : Nat} (T : TypeId) (hb : b = W.heap.size) (s : Sl3 W a1 n1 c1 a2 n2 c2 a3 n3 c3 x)
    (o1 : Offs R a1 n1) (o2 : Offs R a2 n2) (o3 : Offs R a3 n3) : Tri (W.alloc (.cells (tri p a1 n1 c1 a2 n2 c2 a3 n3 c3) T)) b p R x :=
  ⟨a1, n1, c1, a2, n2, c2, a3, n3, c3, Box.new' W _ T hb, s.mono ((Below.refl _ W).alloc (Nat.le_refl _) _), o1, o2, o3⟩
theorem Tri.mono {W W' : World} {b p : Nat} {R : List Nat} {x : T3} (h : Tri W b p R x) (hb : Below W.heap.size W W') : Tri W' b p R x := by
  obtain ⟨a1, n1, c1, a2, n2, c2, a3, n3, c3, h1, h2, h3⟩ := h
  exact ⟨a1, n1, c1, a2, n2, c2, a3, n3, c3, h1.mono hb, h2.mono hb, h3⟩
theorem Tri.other {W : World} {b p : Nat} {R : List Nat} {x : T3} (h : Tri W b p R x) {c : Nat} (hc : c ∈ R) (hne : b ≠ c) (v0 v1 v2 v3 v4 v5 : Value) : Tri (set6 W c v0 v1 v2 v3 v4 v5) b p R x := by
  obtain ⟨a1, n1, c1, a2, n2, c2, a3, n3, c3, h1, h2, h3, h4, h5⟩ := h
  exact ⟨a1, n1, c1, a2, n2, c2, a3, n3, c3, h1.other6 hne _ _ _ _ _ _, h2.set6 (h3 c hc) (h4 c hc) (h5 c hc) _ _ _ _ _ _, h3, h4, h5⟩
theorem Tri.lt {W : World} {b p : Nat} {R : List Nat} {x : T3} (h : Tri W b p R x) : b < W.heap.size := by
  obtain ⟨a1, n1, c1, a2, n2, c2, a3, n3, c3, h1, _⟩ := h
  exact h1.lt
theorem Tri.more {W : World} {b p r : Nat} {R : List Nat} {x : T3} (h : Tri W b p R x) (hr : W.heap.size ≤ r) : Tri W b p (r :: R) x := by
  obtain ⟨a1, n1, c1, a2, n2, c2, a3, n3, c3, h1, h2, h3, h4, h5⟩ := h
  exact ⟨a1, n1, c1, a2, n2, c2, a3, n3, c3, h1, h2, Offs.cons (h2.g.off hr) h3, Offs.cons (h2.u.off hr) h4, Offs.cons (h2.v.off hr) h5⟩
theorem size_set6 (W : World) (b : Nat) (v0 v1 v2 v3 v4 v5 : Value) : (set6 W b v0 v1 v2 v3 v4 v5).heap.size = W.heap.size := by
  simp only [World.setCell, Array.size_modify]
theorem bl1 {W w1 : World} {o : Obj} (h : Below (W.alloc o).drew.heap.size (W.alloc o).drew w1) : Below W.heap.size W w1 :=
  bl (w1 := (W.alloc o).drew) ⟨rfl, rfl, rfl, size_le_alloc _ _, fun k hk => Below.heap_alloc W o k hk⟩ h (size_le_alloc _ _)
theorem bl2 {W w1 : World} {o o' : Obj} (h : Below ((W.alloc o).alloc o').drew.heap.size ((W.alloc o).alloc o').drew w1) : Below W.heap.size W w1 :=
  bl1 (w1 := w1) (o := o) (bl (w1 := ((W.alloc o).alloc o').drew) ⟨rfl, rfl, rfl, size_le_alloc _ _, fun k hk => Below.heap_alloc (W.alloc o) o' k hk⟩ h (size_le_alloc _ _))
theorem bl0 {W w1 : World} {o : Obj} (h : Below (W.alloc o).heap.size (W.alloc o) w1) : Below W.heap.size W w1 :=
  bl (w1 := W.alloc o) ⟨rfl, rfl, rfl, size_le_alloc _ _, fun k hk => Below.heap_alloc W o k hk⟩ h (size_le_alloc _ _)
theorem bdrew {W w1 : World} (h : Below W.heap.size W w1) : Below W.heap.size W w1.drew := h.trans ⟨rfl, rfl, rfl, Nat.le_refl _, fun _ _ => rfl⟩
theorem balloc {W w1 : World} (h : Below W.heap.size W w1) (o : Obj) : Below W.heap.size W (w1.alloc o) := h.alloc h.size o
theorem btrans {W w1 w2 : World} (h : Below W.heap.size W w1) (hb : Below w1.heap.size w1 w2) : Below W.heap.size W w2 := bl h hb h.size
def lenAt (W : World) (b i : Nat) : Nat := match W.cell? ⟨b, i, none⟩ with
  | some (.slice _ n _) => n
  | _ => 0
theorem lenAt_eq {W : World} {b i : Nat} {a : Option Addr} {n c : Nat} (h : W.cell? ⟨b, i, none⟩ = some (.slice a n c)) : lenAt W b i = n := by unfold lenAt; rw [h]
theorem Tri.len {W : World} {b p : Nat} {R : List Nat} {x : T3} (h : Tri W b p R x) : lenAt W b 1 = x.G.length := by
  obtain ⟨a1, n1, c1, a2, n2, c2, a3, n3, c3, h1, h2, _⟩ := h
  rw [lenAt_eq (h1.cell 1 _ rfl), h2.g.len]
theorem Boxes.box {w W : World} {L : List (Array Value)} (h : Boxes w W L) {j : Nat} {cs : Array Value} (hj : L[j]? = some cs) : Box W (w.heap.size + j) cs :=
  have hl : j < L.length := by
    rcases Nat.lt_or_ge j L.length with h3 | h3
    · exact h3
    · rw [List.getElem?_eq_none h3] at hj; exact absurd hj (by simp)
  ⟨by have := h.size; omega, fun i v h1 => h.cell' j i cs v hj h1, fun i => h.frozen' j i hl⟩
/-- the call hands back a triple -/
def RetT (p : Nat) (x : T3) (w : World) (e : Ending) (w' : World) : Prop :=
  ∃ a1 n1 c1 a2 n2 c2 a3 n3 c3, e = .returned (.agg (tri p a1 n1 c1 a2 n2 c2 a3 n3 c3)) ∧ Sl3 w' a1 n1 c1 a2 n2 c2 a3 n3 c3 x ∧ Below w.heap.size w w'
end Alg
