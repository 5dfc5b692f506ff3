/- More small facts for the walks: lengths in bits, powers modulo p. -/
import Derived.Test.YtcefhnmhcapccaaDoorW0
import Derived.Lib.BitFns
import Derived.Lib.ItoaNum
import Derived.WalkSmall
open Go Go.RowKit
namespace Alg
theorem bitLen64 (n : Nat) (h : n < 18446744073709551616) : Lib.bitLen n ≤ 64 ∧ n / 2 ^ Lib.bitLen n = 0 := by
  by_cases h0 : n = 0
  · subst h0; exact ⟨by decide, by simp⟩
  · have h2 := Lib.bitLenAux_bounds 64 n (by simpa using h) h0
    exact ⟨Lib.bitLen_le n 64 (Nat.le_refl _) (by simpa using h), Nat.div_eq_of_lt h2.2.2⟩
/-- a power modulo p -/
def powM (p a n : Nat) : Nat := a ^ n % p
theorem powM_lt (p a n : Nat) (h : 0 < p) : powM p a n < p := Nat.mod_lt _ h
theorem powM_zero (p a : Nat) : powM p a 0 = 1 % p := by rw [powM, Nat.pow_zero]
theorem powM_double (p a m : Nat) : mulM p (powM p a m) (powM p a m) = powM p a (2 * m) := by
  rw [mulM, powM, powM, ← Nat.mul_mod, Nat.two_mul, Nat.pow_add]
theorem powM_odd (p a m : Nat) : mulM p (powM p a (2 * m)) a = powM p a (2 * m + 1) := by
  rw [mulM, powM, powM, Nat.mod_mul_mod, Nat.pow_succ]
theorem half_pow (n k : Nat) (hk : k ≠ 0) : n / 2 ^ (k - 1) = 2 * (n / 2 ^ k) + n / 2 ^ (k - 1) % 2 := by
  obtain ⟨j, rfl⟩ : ∃ j, k = j + 1 := ⟨k - 1, by omega⟩
  rw [show j + 1 - 1 = j by omega, Nat.pow_succ, ← Nat.div_div_eq_div_mul]
  omega
theorem bit_is (n k : Nat) (h : n < 18446744073709551616) : bits BinOp.and IntKind.u64 ((n : Int) / 2 ^ k) 1 = ((n / 2 ^ k % 2 : Nat) : Int) := by
  have h1 : n / 2 ^ k ≤ n := Nat.div_le_self _ _
  have e : (n : Int) / 2 ^ k = ((n / 2 ^ k : Nat) : Int) := by simp
  rw [e]
  generalize n / 2 ^ k = m at *
  rw [and_one_u64 _ (by omega) (by omega)]
  omega
theorem bit_yes (n k : Nat) (h : n < 18446744073709551616) (hb : n / 2 ^ k % 2 = 1) : (bits BinOp.and IntKind.u64 ((n : Int) / 2 ^ k) 1 == 1) = true := by
  rw [bit_is n k h, hb]; rfl
theorem bit_no (n k : Nat) (h : n < 18446744073709551616) (hb : ¬ n / 2 ^ k % 2 = 1) : (bits BinOp.and IntKind.u64 ((n : Int) / 2 ^ k) 1 == 1) = false := by
  rw [bit_is n k h, show n / 2 ^ k % 2 = 0 by omega]; rfl

/-! ### a slice of the call's own that grows -/
structure Gr (w : World) (e : TypeId) (B : Nat) (v : Value) (n : Nat) (l : List Nat) : Prop where
  own : w.ownsRow B e 1 v n (vals l)
  lt : ∀ i, nth l i < 4294967296
theorem Gr.nil (w : World) (e : TypeId) (B : Nat) : Gr w e B (.slice none 0 0) 0 [] :=
  ⟨World.ownsRow_nil _ _ _ _, fun i => by rw [nth_nil]; decide⟩
theorem Gr.len {w : World} {e : TypeId} {B : Nat} {v : Value} {n : Nat} {l : List Nat} (h : Gr w e B v n l) : l.length = n := by
  have := h.own.1; simpa [vals] using this
theorem Gr.shape {w : World} {e : TypeId} {B : Nat} {v : Value} {n : Nat} {l : List Nat} (h : Gr w e B v n l) :
    (v = .slice none 0 0 ∧ n = 0) ∨ ∃ g cap, v = .slice (some ⟨g, 0, none⟩) n cap ∧ B ≤ g ∧ g < w.heap.size ∧ n ≤ cap ∧ cap ≤ maxLen := by
  rcases h.own.2 with h1 | ⟨g, cap, cur, hv, hb, hg, hnc, hcm, _, _⟩
  · exact Or.inl h1
  · refine Or.inr ⟨g, cap, hv, hb, ?_, hnc, hcm⟩
    rcases Nat.lt_or_ge g w.heap.size with h1 | h1
    · exact h1
    · rw [Array.getElem?_eq_none h1] at hg; exact absurd hg (by simp)
theorem Gr.row {w : World} {e : TypeId} {B : Nat} {v : Value} {n : Nat} {l : List Nat} (h : Gr w e B v n l) : ∀ k, v.ownBlock = some k → B ≤ k := by
  intro k hk
  rcases h.shape with ⟨rfl, _⟩ | ⟨g, cap, rfl, hb, _⟩
  · simp [Value.ownBlock] at hk
  · simp [Value.ownBlock] at hk; omega
theorem Gr.mono {w w' : World} {e : TypeId} {B : Nat} {v : Value} {n : Nat} {l : List Nat} (h : Gr w e B v n l) (hb : Below w.heap.size w w') : Gr w' e B v n l := by
  refine ⟨?_, h.lt⟩
  refine h.own.kept ⟨hb.os, hb.tape, hb.output, hb.size, fun k hk _ => hb.block k hk⟩ (row := none) ?_
  cases hv : v.ownBlock <;> simp
theorem Gr.drew {w : World} {e : TypeId} {B : Nat} {v : Value} {n : Nat} {l : List Nat} (h : Gr w e B v n l) : Gr w.drew e B v n l := h.mono ⟨rfl, rfl, rfl, Nat.le_refl _, fun _ _ => rfl⟩
theorem Gr.arr {w : World} {e : TypeId} {B g cap n : Nat} {l : List Nat} (h : Gr w e B (.slice (some ⟨g, 0, none⟩) n cap) n l) : Arr w e B g n cap l := ⟨h.own, h.lt⟩
theorem Gr.sl {w : World} {e : TypeId} {B : Nat} {v : Value} {n : Nat} {l : List Nat} (h : Gr w e B v n l) : ∃ a cap, v = .slice a n cap ∧ Sl w a n cap l ∧ (n = 0 ∨ ∃ g, a = some ⟨g, 0, none⟩ ∧ B ≤ g) := by
  rcases h.shape with ⟨rfl, rfl⟩ | ⟨g, cap, rfl, hb, _, _, hc⟩
  · have hl : l = [] := List.length_eq_zero_iff.1 h.len
    subst hl
    exact ⟨none, 0, rfl, Sl.of_nil _ _ _ (by omega), Or.inl rfl⟩
  · exact ⟨_, _, rfl, h.arr.sl (by unfold maxLen at hc; omega), Or.inr ⟨g, rfl, hb⟩⟩
theorem vals_snoc (l : List Nat) (c : Nat) : vals (l ++ [c]) = vals l ++ [.int .u32 (c : Nat)] := by simp [vals]
theorem nth_snoc (l : List Nat) (c i : Nat) : nth (l ++ [c]) i = if i = l.length then c else nth l i := by
  unfold nth
  rw [List.getD_eq_getElem?_getD, List.getD_eq_getElem?_getD, List.getElem?_append]
  by_cases h : i < l.length
  · rw [if_pos h, if_neg (by omega)]
  · rw [if_neg h]
    by_cases e : i = l.length
    · rw [if_pos e, e, Nat.sub_self]; rfl
    · rw [if_neg e, List.getElem?_eq_none (by simp; omega), List.getElem?_eq_none (by omega)]
theorem Gr.snoc {w : World} {e : TypeId} {B : Nat} {v : Value} {n : Nat} {l : List Nat} {c : Nat} (h : w.ownsRow B e 1 v (n + 1) (vals l ++ [.int .u32 (c : Nat)])) (hl : ∀ i, nth l i < 4294967296) (hc : c < 4294967296) : Gr w e B v (n + 1) (l ++ [c]) :=
  ⟨by rw [vals_snoc]; exact h, fun i => by rw [nth_snoc]; split; exact hc; exact hl i⟩
theorem Boxes.grown {w W W' : World} {L : List (Array Value)} {row : Option Nat} (h : Boxes w W L) (hg : W.grownBy W' row) (hr : ∀ k, row = some k → w.heap.size + L.length ≤ k) : Boxes w W' L where
  below := h.below.grown hg h.below.size (fun k e => by have := hr k e; omega)
  size := Nat.le_trans h.size hg.size
  cell' := fun j i cs v h1 h2 => by
    have hj : j < L.length := by
      rcases Nat.lt_or_ge j L.length with h3 | h3
      · exact h3
      · rw [List.getElem?_eq_none h3] at h1; exact absurd h1 (by simp)
    refine (World.cell?_of_block (w := W) (hg.block _ (by have := h.size; show w.heap.size + j < _; omega) (fun e => ?_))).trans (h.cell' j i cs v h1 h2)
    have := hr _ e.symm
    have h5 : w.heap.size + L.length ≤ w.heap.size + j := this
    omega
  frozen' := fun j i h1 => by
    refine (World.frozen?_of_block (w := W) (hg.block _ (by have := h.size; show w.heap.size + j < _; omega) (fun e => ?_))).trans (h.frozen' j i h1)
    have := hr _ e.symm
    have h5 : w.heap.size + L.length ≤ w.heap.size + j := this
    omega
/-- what is cut off a slice of the call's own lies where that lies -/
theorem own_case {w0 w' : World} {a a' : Option Addr} {k n' cap' B : Nat} {m l : List Nat} (hpv : Prov w0 [a] a' n') (hg : k = 0 ∨ ∃ g, a = some ⟨g, 0, none⟩ ∧ B ≤ g) (hl : l.length = k) (hs : Sl w' a' n' cap' m) (hm : m.length ≤ l.length) :
    n' = 0 ∨ ∃ b o s, a' = some ⟨b, o, s⟩ ∧ (B ≤ b ∨ w0.heap.size ≤ b) := by
  have hn := hs.len
  rcases hpv with h | h | ⟨b, o, s, h1, h2⟩
  · exact Or.inl h
  · rcases hg with h3 | ⟨g, h3, h4⟩
    · left; omega
    · exact Or.inr ⟨g, 0, none, by rw [List.mem_singleton.1 h, h3], Or.inl h4⟩
  · exact Or.inr ⟨b, o, s, h1, Or.inr h2⟩
theorem own_off {w0 w' : World} {a a' : Option Addr} {k n' cap' B r : Nat} {l : List Nat} (hpv : Prov w0 [a] a' n') (hg : k = 0 ∨ ∃ g, a = some ⟨g, 0, none⟩ ∧ B ≤ g) (hs : Sl w' a' n' cap' (trim l)) (hr : r < w0.heap.size) (hB : r < B) (hl : l.length = k := by first | assumption | simp) : Off a' n' r := by
  rcases own_case hpv hg hl hs (trim_len l) with h | ⟨b, o, s, h1, h2⟩
  · exact Or.inl h
  · rw [h1]; exact Off.fresh (by omega)
theorem own_prov {w0 w w' : World} {a a' : Option Addr} {k n' cap' B : Nat} {l : List Nat} (hpv : Prov w0 [a] a' n') (hg : k = 0 ∨ ∃ g, a = some ⟨g, 0, none⟩ ∧ B ≤ g) (hs : Sl w' a' n' cap' (trim l)) (hw : w.heap.size ≤ w0.heap.size) (hB : w.heap.size ≤ B) (hl : l.length = k := by first | assumption | simp) : Prov w [] a' n' := by
  rcases own_case hpv hg hl hs (trim_len l) with h | ⟨b, o, s, h1, h2⟩
  · exact Or.inl h
  · exact Or.inr (Or.inr ⟨b, o, s, h1, by omega⟩)
theorem size_le_alloc (w : World) (o : Obj) : w.heap.size ≤ (w.alloc o).heap.size := by rw [World.size_alloc]; exact Nat.le_succ _
end Alg
