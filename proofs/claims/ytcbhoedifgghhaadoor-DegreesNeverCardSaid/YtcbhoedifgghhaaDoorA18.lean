/- A small number's limbs; a polynomial in one box of the call's own. -/
import Derived.Test.YtcbhoedifgghhaaDoorW46
import Derived.Test.YtcbhoedifgghhaaDoorW30
open Alg Go Go.RowKit
namespace Alg
theorem valN_one (n : Nat) : valN [n] = n := by show n + 4294967296 * 0 = n; omega
/-- a polynomial in box b of the call's own, behind its other variables L; its row is new and lies in none of the blocks R -/
structure FX (w W : World) (L : List (Array Value)) (p b : Nat) (R : List Nat) (O : List Nat) : Prop where
  bx : Boxes w W L
  hb : w.heap.size + L.length ≤ b
  lt : ∀ r ∈ R, r < W.heap.size
  one : ∃ a n cap, Box W b #[.int .u32 (p : Int), .slice a n cap] ∧ Sl W a n cap O ∧ (∀ r ∈ R, Off a n r) ∧ Prov w [] a n
theorem FX.mono {w W W' : World} {L : List (Array Value)} {p b : Nat} {R : List Nat} {O : List Nat} (h : FX w W L p b R O) (hb : Below W.heap.size W W') : FX w W' L p b R O := by
  obtain ⟨a, n, cap, h1, h2, h3⟩ := h.one
  exact ⟨h.bx.mono hb, h.hb, fun r hr => Nat.lt_of_lt_of_le (h.lt r hr) hb.size, ⟨a, n, cap, h1.mono hb, h2.mono hb, h3⟩⟩
theorem FX.fresh {w W : World} {L : List (Array Value)} {p b : Nat} {R : List Nat} {O : List Nat} (h : FX w W L p b R O) {a : Option Addr} {n : Nat} (hp : Prov W [] a n) : (∀ r ∈ R, Off a n r) ∧ Prov w [] a n :=
  ⟨fun r hr => hp.off0 (h.lt r hr), hp.mono (by have := h.bx.size; omega)⟩
theorem FX.set {w W : World} {L : List (Array Value)} {p b : Nat} {R : List Nat} {O O' : List Nat} (h : FX w W L p b R O) {a : Option Addr} {n cap : Nat} (hs : Sl W a n cap O') (ho : (∀ r ∈ R, Off a n r) ∧ Prov w [] a n) (hbR : b ∈ R) :
    FX w ((W.setCell ⟨b, 0, none⟩ (.int .u32 (p : Int))).setCell ⟨b, 1, none⟩ (.slice a n cap)) L p b R O' := by
  obtain ⟨_, _, _, h1, _, _⟩ := h.one
  exact ⟨h.bx.set2 h.hb _ _, h.hb, fun r hr => by rw [size_set2]; exact h.lt r hr, ⟨a, n, cap, h1.put2 _ _, hs.set2 (ho.1 b hbR) _ _, ho⟩⟩
/-- a new box -/
theorem FX.new {w W : World} {L : List (Array Value)} {p r : Nat} {O : List Nat} (T : TypeId) (bx : Boxes w W L) {a : Option Addr} {n cap : Nat} (hs : Sl W a n cap O) (hr : r < w.heap.size + L.length) (ho : Off a n r ∧ Prov w [] a n) {b : Nat} (hb : b = W.heap.size) :
    FX w (W.alloc (.cells #[.int .u32 (p : Int), .slice a n cap] T)) L p b [b, r] O := by
  have hg : Below W.heap.size W (W.alloc (.cells #[.int .u32 (p : Int), .slice a n cap] T)) := (Below.refl _ _).alloc (Nat.le_refl _) _
  have h7 : (W.alloc (.cells #[.int .u32 (p : Int), .slice a n cap] T)).heap.size = W.heap.size + 1 := World.size_alloc _ _
  have hsz := bx.size
  refine ⟨bx.mono hg, by omega, ?_, ⟨a, n, cap, Box.new' W _ _ hb, hs.mono hg, ?_, ho.2⟩⟩
  · intro x hx
    simp only [List.mem_cons, List.not_mem_nil, or_false] at hx
    rcases hx with rfl | rfl <;> omega
  · intro x hx
    simp only [List.mem_cons, List.not_mem_nil, or_false] at hx
    rcases hx with rfl | rfl
    · exact hs.off (by omega)
    · exact ho.1
end Alg
namespace Go.Proofs.YtcbhoedifgghhaaDoor
theorem limbs_one {n : Nat} (h0 : 0 < n) (h : n < 4294967296) : limbs n = [n] := by
  unfold limbs
  rw [Nat.mod_eq_of_lt h, Nat.div_eq_of_lt h]
  have h1 := trim_take [n, 0] 1 (by simp) (fun i a b => by
    have : i = 1 := by simp at b; omega
    subst this; rfl) (Or.inr (by show n ≠ 0; omega))
  rw [← h1]; rfl
end Go.Proofs.YtcbhoedifgghhaaDoor
