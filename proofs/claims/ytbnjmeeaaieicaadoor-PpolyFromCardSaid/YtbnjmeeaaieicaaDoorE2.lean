/- More small facts for the walks: lengths in bits, powers modulo p. Contract of slices.Clone at []uint32. Contracts of modp.Pow, modp.Inv and the reference's inverse. Contracts of the reference's Scale and Add. Contracts of nat.trim, nat.Of, whole.of, whole.Of. modp.Field at 5. -/
import Derived.Test.YtbnjmeeaaieicaaDoorW0
import Derived.Lib.BitFns
import Derived.Lib.ItoaNum
import Derived.WalkSmall
import Derived.Test.YtbnjmeeaaieicaaDoorE0
import Derived.Lib.SliceRun
import Derived.Test.YtbnjmeeaaieicaaDoorShelf
import Derived.Deep.AppendLies
import Derived.WalkMore
import Derived.Scope
section
open Go Go.RowKit
namespace Alg
theorem bitLen64 (n : Nat) (h : n < 18446744073709551616) : Lib.bitLen n ≤ 64 ∧ n / 2 ^ Lib.bitLen n = 0 := by
  by_cases h0 : n = 0
  · subst h0; exact ⟨by decide, by simp⟩
  · have h2 := Lib.bitLenAux_bounds 64 n (by simpa using h) h0
    exact ⟨Lib.bitLen_le n 64 (Nat.le_refl _) (by simpa using h), Nat.div_eq_of_lt h2.2.2⟩
/-- a power modulo p -/
def powM (p a n : Nat) : Nat := a ^ n % p
theorem powM_lt (p a n : Nat) (h : 0 < p) : powM p a n < p := Nat.mod_lt _ h
theorem powM_zero (p a : Nat) : powM p a 0 = 1 % p := by rw [powM, Nat.pow_zero]
theorem powM_double (p a m : Nat) : mulM p (powM p a m) (powM p a m) = powM p a (2 * m) := by
  rw [mulM, powM, powM, ← Nat.mul_mod, Nat.two_mul, Nat.pow_add]
theorem powM_odd (p a m : Nat) : mulM p (powM p a (2 * m)) a = powM p a (2 * m + 1) := by
  rw [mulM, powM, powM, Nat.mod_mul_mod, Nat.pow_succ]
theorem half_pow (n k : Nat) (hk : k ≠ 0) : n / 2 ^ (k - 1) = 2 * (n / 2 ^ k) + n / 2 ^ (k - 1) % 2 := by
  obtain ⟨j, rfl⟩ : ∃ j, k = j + 1 := ⟨k - 1, by omega⟩
  rw [show j + 1 - 1 = j by omega, Nat.pow_succ, ← Nat.div_div_eq_div_mul]
  omega
theorem bit_is (n k : Nat) (h : n < 18446744073709551616) : bits BinOp.and IntKind.u64 ((n : Int) / 2 ^ k) 1 = ((n / 2 ^ k % 2 : Nat) : Int) := by
  have h1 : n / 2 ^ k ≤ n := Nat.div_le_self _ _
  have e : (n : Int) / 2 ^ k = ((n / 2 ^ k : Nat) : Int) := by simp
  rw [e]
  generalize n / 2 ^ k = m at *
  rw [and_one_u64 _ (by omega) (by omega)]
  omega
theorem bit_yes (n k : Nat) (h : n < 18446744073709551616) (hb : n / 2 ^ k % 2 = 1) : (bits BinOp.and IntKind.u64 ((n : Int) / 2 ^ k) 1 == 1) = true := by
  rw [bit_is n k h, hb]; rfl
theorem bit_no (n k : Nat) (h : n < 18446744073709551616) (hb : ¬ n / 2 ^ k % 2 = 1) : (bits BinOp.and IntKind.u64 ((n : Int) / 2 ^ k) 1 == 1) = false := by
  rw [bit_is n k h, show n / 2 ^ k % 2 = 0 by omega]; rfl

/-! ### a slice of the call's own that grows -/
structure Gr (w : World) (e : TypeId) (B : Nat) (v : Value) (n : Nat) (l : List Nat) : Prop where
  own : w.ownsRow B e 1 v n (vals l)
  lt : ∀ i, nth l i < 4294967296
theorem Gr.nil (w : World) (e : TypeId) (B : Nat) : Gr w e B (.slice none 0 0) 0 [] :=
  ⟨World.ownsRow_nil _ _ _ _, fun i => by rw [nth_nil]; decide⟩
theorem Gr.len {w : World} {e : TypeId} {B : Nat} {v : Value} {n : Nat} {l : List Nat} (h : Gr w e B v n l) : l.length = n := by
  have := h.own.1; simpa [vals] using this
theorem Gr.shape {w : World} {e : TypeId} {B : Nat} {v : Value} {n : Nat} {l : List Nat} (h : Gr w e B v n l) :
    (v = .slice none 0 0 ∧ n = 0) ∨ ∃ g cap, v = .slice (some ⟨g, 0, none⟩) n cap ∧ B ≤ g ∧ g < w.heap.size ∧ n ≤ cap ∧ cap ≤ maxLen := by
  rcases h.own.2 with h1 | ⟨g, cap, cur, hv, hb, hg, hnc, hcm, _, _⟩
  · exact Or.inl h1
  · refine Or.inr ⟨g, cap, hv, hb, ?_, hnc, hcm⟩
    rcases Nat.lt_or_ge g w.heap.size with h1 | h1
    · exact h1
    · rw [Array.getElem?_eq_none h1] at hg; exact absurd hg (by simp)
theorem Gr.row {w : World} {e : TypeId} {B : Nat} {v : Value} {n : Nat} {l : List Nat} (h : Gr w e B v n l) : ∀ k, v.ownBlock = some k → B ≤ k := by
  intro k hk
  rcases h.shape with ⟨rfl, _⟩ | ⟨g, cap, rfl, hb, _⟩
  · simp [Value.ownBlock] at hk
  · simp [Value.ownBlock] at hk; omega
theorem Gr.mono {w w' : World} {e : TypeId} {B : Nat} {v : Value} {n : Nat} {l : List Nat} (h : Gr w e B v n l) (hb : Below w.heap.size w w') : Gr w' e B v n l := by
  refine ⟨?_, h.lt⟩
  refine h.own.kept ⟨hb.os, hb.tape, hb.output, hb.size, fun k hk _ => hb.block k hk⟩ (row := none) ?_
  cases hv : v.ownBlock <;> simp
theorem Gr.drew {w : World} {e : TypeId} {B : Nat} {v : Value} {n : Nat} {l : List Nat} (h : Gr w e B v n l) : Gr w.drew e B v n l := h.mono ⟨rfl, rfl, rfl, Nat.le_refl _, fun _ _ => rfl⟩
theorem Gr.arr {w : World} {e : TypeId} {B g cap n : Nat} {l : List Nat} (h : Gr w e B (.slice (some ⟨g, 0, none⟩) n cap) n l) : Arr w e B g n cap l := ⟨h.own, h.lt⟩
theorem Gr.sl {w : World} {e : TypeId} {B : Nat} {v : Value} {n : Nat} {l : List Nat} (h : Gr w e B v n l) : ∃ a cap, v = .slice a n cap ∧ Sl w a n cap l ∧ (n = 0 ∨ ∃ g, a = some ⟨g, 0, none⟩ ∧ B ≤ g) := by
  rcases h.shape with ⟨rfl, rfl⟩ | ⟨g, cap, rfl, hb, _, _, hc⟩
  · have hl : l = [] := List.length_eq_zero_iff.1 h.len
    subst hl
    exact ⟨none, 0, rfl, Sl.of_nil _ _ _ (by omega), Or.inl rfl⟩
  · exact ⟨_, _, rfl, h.arr.sl (by unfold maxLen at hc; omega), Or.inr ⟨g, rfl, hb⟩⟩
theorem vals_snoc (l : List Nat) (c : Nat) : vals (l ++ [c]) = vals l ++ [.int .u32 (c : Nat)] := by simp [vals]
theorem nth_snoc (l : List Nat) (c i : Nat) : nth (l ++ [c]) i = if i = l.length then c else nth l i := by
  unfold nth
  rw [List.getD_eq_getElem?_getD, List.getD_eq_getElem?_getD, List.getElem?_append]
  by_cases h : i < l.length
  · rw [if_pos h, if_neg (by omega)]
  · rw [if_neg h]
    by_cases e : i = l.length
    · rw [if_pos e, e, Nat.sub_self]; rfl
    · rw [if_neg e, List.getElem?_eq_none (by simp; omega), List.getElem?_eq_none (by omega)]
theorem Gr.snoc {w : World} {e : TypeId} {B : Nat} {v : Value} {n : Nat} {l : List Nat} {c : Nat} (h : w.ownsRow B e 1 v (n + 1) (vals l ++ [.int .u32 (c : Nat)])) (hl : ∀ i, nth l i < 4294967296) (hc : c < 4294967296) : Gr w e B v (n + 1) (l ++ [c]) :=
  ⟨by rw [vals_snoc]; exact h, fun i => by rw [nth_snoc]; split; exact hc; exact hl i⟩
theorem Boxes.grown {w W W' : World} {L : List (Array Value)} {row : Option Nat} (h : Boxes w W L) (hg : W.grownBy W' row) (hr : ∀ k, row = some k → w.heap.size + L.length ≤ k) : Boxes w W' L where
  below := h.below.grown hg h.below.size (fun k e => by have := hr k e; omega)
  size := Nat.le_trans h.size hg.size
  cell' := fun j i cs v h1 h2 => by
    have hj : j < L.length := by
      rcases Nat.lt_or_ge j L.length with h3 | h3
      · exact h3
      · rw [List.getElem?_eq_none h3] at h1; exact absurd h1 (by simp)
    refine (World.cell?_of_block (w := W) (hg.block _ (by have := h.size; show w.heap.size + j < _; omega) (fun e => ?_))).trans (h.cell' j i cs v h1 h2)
    have := hr _ e.symm
    have h5 : w.heap.size + L.length ≤ w.heap.size + j := this
    omega
  frozen' := fun j i h1 => by
    refine (World.frozen?_of_block (w := W) (hg.block _ (by have := h.size; show w.heap.size + j < _; omega) (fun e => ?_))).trans (h.frozen' j i h1)
    have := hr _ e.symm
    have h5 : w.heap.size + L.length ≤ w.heap.size + j := this
    omega
/-- what is cut off a slice of the call's own lies where that lies -/
theorem own_case {w0 w' : World} {a a' : Option Addr} {k n' cap' B : Nat} {m l : List Nat} (hpv : Prov w0 [a] a' n') (hg : k = 0 ∨ ∃ g, a = some ⟨g, 0, none⟩ ∧ B ≤ g) (hl : l.length = k) (hs : Sl w' a' n' cap' m) (hm : m.length ≤ l.length) :
    n' = 0 ∨ ∃ b o s, a' = some ⟨b, o, s⟩ ∧ (B ≤ b ∨ w0.heap.size ≤ b) := by
  have hn := hs.len
  rcases hpv with h | h | ⟨b, o, s, h1, h2⟩
  · exact Or.inl h
  · rcases hg with h3 | ⟨g, h3, h4⟩
    · left; omega
    · exact Or.inr ⟨g, 0, none, by rw [List.mem_singleton.1 h, h3], Or.inl h4⟩
  · exact Or.inr ⟨b, o, s, h1, Or.inr h2⟩
theorem own_off {w0 w' : World} {a a' : Option Addr} {k n' cap' B r : Nat} {l : List Nat} (hpv : Prov w0 [a] a' n') (hg : k = 0 ∨ ∃ g, a = some ⟨g, 0, none⟩ ∧ B ≤ g) (hs : Sl w' a' n' cap' (trim l)) (hr : r < w0.heap.size) (hB : r < B) (hl : l.length = k := by first | assumption | simp) : Off a' n' r := by
  rcases own_case hpv hg hl hs (trim_len l) with h | ⟨b, o, s, h1, h2⟩
  · exact Or.inl h
  · rw [h1]; exact Off.fresh (by omega)
theorem own_prov {w0 w w' : World} {a a' : Option Addr} {k n' cap' B : Nat} {l : List Nat} (hpv : Prov w0 [a] a' n') (hg : k = 0 ∨ ∃ g, a = some ⟨g, 0, none⟩ ∧ B ≤ g) (hs : Sl w' a' n' cap' (trim l)) (hw : w.heap.size ≤ w0.heap.size) (hB : w.heap.size ≤ B) (hl : l.length = k := by first | assumption | simp) : Prov w [] a' n' := by
  rcases own_case hpv hg hl hs (trim_len l) with h | ⟨b, o, s, h1, h2⟩
  · exact Or.inl h
  · exact Or.inr (Or.inr ⟨b, o, s, h1, by omega⟩)
theorem size_le_alloc (w : World) (o : Obj) : w.heap.size ≤ (w.alloc o).heap.size := by rw [World.size_alloc]; exact Nat.le_succ _
end Alg
end
section
open Alg
namespace Go.Proofs.YtbnjmeeaaieicaaDoor
open Go.RowKit
theorem Tryd.infoU9 : (Tryd.prog.info? 22).map (fun i => (i.zero, i.size, i.bytes)) = some (some (.int .u32 0), 1, 4) := by kernel_rfl
/-- the call hands back a slice of its own -/
def RetOwn (l : List Nat) (w : World) (e : Ending) (w' : World) : Prop :=
  ∃ v, e = .returned v ∧ Gr w' 22 w.heap.size v l.length l ∧ Below w.heap.size w w'
theorem vals_one (l : List Nat) : ∀ u ∈ vals l, u.oneCell' = true := by
  intro u hu
  obtain ⟨c, _, rfl⟩ := List.mem_map.1 hu
  rfl
set_option maxRecDepth 100000 in
theorem clone_some (x : Addr) (n cap : Nat) (l : List Nat) (w : World) (h : Sl w (some x) n cap l) (hn : n ≤ 1099511627776) :
    Calls Tryd.prog 115 #[.slice (some x) n cap] w (RetOwn l w) := by
  obtain ⟨i0, hi, hz0, hz1, hz2⟩ := info_parts Tryd.infoU9
  have hsl := h.len
  have hnews : ∀ j u, (vals l)[j]? = some u → (w.alloc (.cells #[] 22)).cell? (x.add j) = some u := by
    intro j u hj
    have hjl : j < l.length := by
      rcases Nat.lt_or_ge j l.length with h1 | h1
      · exact h1
      · rw [List.getElem?_eq_none (by simpa [vals] using h1)] at hj; exact absurd hj (by simp)
    rw [vals_get l j hjl] at hj
    have hu : Value.int .u32 (nth l j : Nat) = u := by simpa using hj
    subst hu
    rcases h.rd with h0 | ⟨b, off, ha, hc⟩
    · omega
    · simp only [Option.some.injEq] at ha
      subst ha
      have hcj := hc j (by omega)
      have e : (⟨b, off, none⟩ : Addr).add j = ⟨b, off + j, none⟩ := by
        unfold Addr.add; split
        · rename_i h0; subst h0; rfl
        · rfl
      rw [e, cell_past _ _ (cell_lt hcj)]; exact hcj
  have hone := vals_one l
  have hvl : (vals l).length = n * 1 := by simp [vals, hsl]
  have q1 : 0 + n ≤ maxLen := by unfold maxLen; omega
  have q2 : (0 + n) * 4 ≤ 140737488355328 := by omega
  have hown : (w.alloc (.cells #[] 22)).ownsRow w.heap.size 22 1 (.slice (some ⟨w.heap.size, 0, none⟩) 0 0) 0 [] := by
    refine ⟨rfl, Or.inr ⟨w.heap.size, 0, #[], rfl, Nat.le_refl _, ?_, Nat.le_refl _, Nat.zero_le _, rfl, rfl⟩⟩
    show (w.heap.push _)[w.heap.size]? = _
    rw [Array.getElem?_push_size]
  have HO := Alg.hid hown
  have HN := Alg.hid hnews
  have H1 := Alg.hid hone
  have HV := Alg.hid hvl
  clear hown hnews hone hvl
  have hnil := fun (w : World) (a : Option Addr) (n c n' c' : Nat) => Lib.run_eql_slice_nil (P := Tryd.prog) w 23 22 a n c n' c' Tryd.underlying23
  go_enter Tryd.func115, Tryd.ntmps115
  go_wp2_with (at_builtin; refine wpList_append_own _ rfl _ _ 23 rfl w.heap.size 22 i0 (.int .u32 0) 1 4 Tryd.underlying23 hi hz0 hz1 hz2 rfl Nat.one_pos _ 0 [] rfl HO.out x n cap (vals l) rfl HV.out HN.out H1.out q1 q2 (size_le_alloc _ _) ?_; intro v' w1 hown1 hgrow _)
  go_ret
  have hlt := h.lt
  refine ⟨v', rfl, ⟨by rw [hsl]; simpa using hown1, hlt⟩, ((Below.refl w.heap.size w).alloc (Nat.le_refl _) _).grown hgrow (by simp) ?_⟩
  intro k hk
  have hk' : some w.heap.size = some k := hk
  have := Option.some.inj hk'
  omega
set_option maxRecDepth 100000 in
theorem clone_none (n cap : Nat) (l : List Nat) (w : World) (h : Sl w none n cap l) :
    Calls Tryd.prog 115 #[.slice none n cap] w (RetOwn l w) := by
  have hl : l = [] := by
    rcases h.rd with h0 | ⟨b, off, ha, _⟩
    · exact List.length_eq_zero_iff.1 (by rw [h.len, h0])
    · exact absurd ha (by simp)
  subst hl
  have hnil := fun (w : World) (a : Option Addr) (n c n' c' : Nat) => Lib.run_eql_slice_nil (P := Tryd.prog) w 23 22 a n c n' c' Tryd.underlying23
  go_enter Tryd.func115, Tryd.ntmps115
  go_wp2
  go_ret
  exact ⟨_, rfl, Gr.nil _ _ _, by go_grown⟩
theorem clone_any (a : Option Addr) (n cap : Nat) (l : List Nat) (w : World) (h : Sl w a n cap l) (hn : n ≤ 1099511627776) :
    Calls Tryd.prog 115 #[.slice a n cap] w (RetOwn l w) := by
  cases a with
  | none => exact clone_none n cap l w h
  | some x => exact clone_some x n cap l w h hn
end Go.Proofs.YtbnjmeeaaieicaaDoor
end
section
open Alg
namespace Go.Proofs.YtbnjmeeaaieicaaDoor
open Go.RowKit
set_option maxHeartbeats 400000 in
theorem modp_Pow (p a n : Nat) (w : World) (hp0 : 0 < p) (hp : p < 4294967296) (ha : a < 4294967296) (hn : n < 18446744073709551616) :
    Calls Tryd.prog 30 #[.int .u32 p, .int .u32 a, .int .u64 n] w fun e w' => e = .returned (.int .u32 (powM p a n : Nat)) ∧ w' = w := by
  obtain ⟨h64, hz⟩ := bitLen64 n hn
  have HZ := Alg.hid hz
  clear hz
  have HN := Alg.hid hn
  clear hn
  go_enter Tryd.func30, Tryd.ntmps30
  go_wp2_with fail
  refine (Tryd.bits_Len64 (n : Int) _ (by omega) (by have := HN.out; omega)).mono ?_
  rintro e w' ⟨rfl, rfl⟩
  rw [Int.toNat_natCast]
  go_wp2_with fail
  go_loop [7, 8] (fun x i => ∃ k : Nat, i = .int .i64 ((k : Int) - 1) ∧ k ≤ Lib.bitLen n ∧ x = .int .u32 (powM p a (n / 2 ^ k) : Nat)) (fun _ i => (intOf i + 1).toNat)
  case atStart => exact ⟨Lib.bitLen n, rfl, Nat.le_refl _, by rw [HZ.out, powM_zero]; simp⟩
  case round =>
    obtain ⟨k, rfl, hk, rfl⟩ := hrel
    by_cases k0 : k = 0
    · subst k0
      go_wp2
      go_ret
      exact ⟨ret_int (by simp), rfl⟩
    · have hk1 : (0 : Int) ≤ (k : Int) - 1 := by omega
      have hx := powM_lt p a (n / 2 ^ k) hp0
      by_cases hb : n / 2 ^ (k - 1) % 2 = 1
      · have hbit := bit_yes n (k - 1) HN.out hb
        have HE : Hid (n / 2 ^ (k - 1) = 2 * (n / 2 ^ k) + 1) := by have := half_pow n k k0; rw [hb] at this; exact this
        clear hb
        go_wp2_with fail
        refine (modp_Mul p (powM p a (n / 2 ^ k)) (powM p a (n / 2 ^ k)) _ hp0 hp (by omega) (by omega)).mono ?_
        rintro e w' ⟨rfl, rfl⟩
        rw [powM_double]
        have hx2 := powM_lt p a (2 * (n / 2 ^ k)) hp0
        go_wp2_with fail
        refine (modp_Mul p (powM p a (2 * (n / 2 ^ k))) a _ hp0 hp (by omega) (by omega)).mono ?_
        rintro e w' ⟨rfl, rfl⟩
        rw [powM_odd]
        go_wp2
        go_round
        case rel => exact ⟨k - 1, by congr 1; omega, by omega, by rw [HE.out]⟩
        case measure => simp [intOf]; omega
      · have hbit := bit_no n (k - 1) HN.out hb
        have HE : Hid (n / 2 ^ (k - 1) = 2 * (n / 2 ^ k)) := by have := half_pow n k k0; rw [show n / 2 ^ (k - 1) % 2 = 0 by omega] at this; exact this
        clear hb
        go_wp2_with fail
        refine (modp_Mul p (powM p a (n / 2 ^ k)) (powM p a (n / 2 ^ k)) _ hp0 hp (by omega) (by omega)).mono ?_
        rintro e w' ⟨rfl, rfl⟩
        rw [powM_double]
        go_wp2
        go_round
        case rel => exact ⟨k - 1, by congr 1; omega, by omega, by rw [HE.out]⟩
        case measure => simp [intOf]; omega
theorem modp_Inv (p a : Nat) (w : World) (hp0 : 1 < p) (hp : p < 4294967296) (ha : a < 4294967296) (ha0 : a ≠ 0) :
    Calls Tryd.prog 32 #[.int .u32 p, .int .u32 a] w fun e w' => e = .returned (.tuple #[.int .u32 (powM p a (p - 2) : Nat), .int .i64 0]) ∧ w' = w := by
  have hab : ((a : Int) == 0) = false := by simp; omega
  go_enter Tryd.func32, Tryd.ntmps32
  go_wp2_with fail
  have e2 : ((p : Int) - 2) = ((p - 2 : Nat) : Int) := by omega
  rw [e2]
  refine (modp_Pow p a (p - 2) _ (by omega) hp ha (by omega)).mono ?_
  rintro e w' ⟨rfl, rfl⟩
  go_wp2
  go_ret2
  exact ⟨rfl, rfl⟩
theorem modp_Inv0 (p : Nat) (w : World) :
    Calls Tryd.prog 32 #[.int .u32 p, .int .u32 0] w fun e w' => e = .returned (.tuple #[.int .u32 0, .int .i64 3]) ∧ w' = w := by
  go_enter Tryd.func32, Tryd.ntmps32
  go_wp2
  go_ret2
  exact ⟨rfl, rfl⟩
set_option maxHeartbeats 400000 in
theorem ref_inverse (p a : Nat) (w : World) (hp0 : 1 < p) (hp : p < 4294967296) (ha : a < 4294967296) :
    Calls Tryd.prog 86 #[.int .u32 p, .int .u32 a] w fun e w' => e = .returned (.int .u32 (powM p a (p - 2) : Nat)) ∧ w' = w := by
  go_enter Tryd.func86, Tryd.ntmps86
  go_wp2
  go_loop [5, 6, 7] (fun o x n => ∃ m O Y : Nat, n = .int .u32 m ∧ m ≤ p ∧ o = .int .u64 O ∧ x = .int .u64 Y ∧ O < 4294967296 ∧ Y < 4294967296 ∧ Hid (O * Y ^ m % p = powM p a (p - 2))) (fun _ _ n => (intOf n).toNat)
  case atStart => exact ⟨p - 2, 1, a, by congr 1; omega, by omega, rfl, rfl, by omega, ha, by show 1 * a ^ (p - 2) % p = _; rw [Nat.one_mul]; rfl⟩
  case round =>
    obtain ⟨m, O, Y, rfl, hm, rfl, rfl, hO, hY, hE⟩ := hrel
    have hp1 : (1 : Int) ≤ (p : Int) := by omega
    obtain ⟨b1, b2⟩ := cMul_le hO hY
    obtain ⟨b3, b4⟩ := cMul_le hY hY
    by_cases m0 : m = 0
    · subst m0
      have hx : ((O : Int) % (p : Int)) < p := Int.emod_lt_of_pos _ (by omega)
      have hx0 : 0 ≤ ((O : Int) % (p : Int)) := Int.emod_nonneg _ (by omega)
      go_wp2
      go_ret
      exact ⟨ret_int (by rw [← hE.out, Nat.pow_zero, Nat.mul_one]; simp), rfl⟩
    · by_cases hodd : m % 2 = 1
      · go_wp2
        go_round
        case rel =>
          refine ⟨m / 2, mulM p O Y, mulM p Y Y, by simp, by omega, by rw [mulM_cast], by rw [mulM_cast], by have := mulM_lt p O Y (by omega); omega, by have := mulM_lt p Y Y (by omega); omega, ?_⟩
          rw [← hE.out, mulM, mulM, Nat.mod_mul_mod, Nat.mul_mod, ← Nat.pow_mod, ← Nat.mul_mod, ← Nat.pow_two, ← Nat.pow_mul, Nat.mul_assoc, ← Nat.pow_succ', show (2 * (m / 2)).succ = m by omega]
          rfl
        case measure => simp [intOf]; omega
      · go_wp2
        go_round
        case rel =>
          refine ⟨m / 2, O, mulM p Y Y, by simp, by omega, rfl, by rw [mulM_cast], hO, by have := mulM_lt p Y Y (by omega); omega, ?_⟩
          rw [← hE.out, mulM, Nat.mul_mod, ← Nat.pow_mod, ← Nat.mul_mod, ← Nat.pow_two, ← Nat.pow_mul, show 2 * (m / 2) = m by omega]
          rfl
        case measure => simp [intOf]; omega
end Go.Proofs.YtbnjmeeaaieicaaDoor
end
section
open Alg
namespace Go.Proofs.YtbnjmeeaaieicaaDoor
open Go.RowKit
theorem Tryd.infoU' : (Tryd.prog.info? 22).map (fun i => (i.zero, i.size, i.bytes)) = some (some (.int .u32 0), 1, 4) := by kernel_rfl
theorem news_one {w : World} {v : Value} {t : TypeId} : ∀ (j : Nat) (u : Value), [v][j]? = some u → (w.alloc (.cells #[v] t)).cell? ((⟨w.heap.size, 0, none⟩ : Addr).add j) = some u := by
  intro j u hj
  match j, hj with
  | 0, hj =>
    have : v = u := by simpa using hj
    subst this
    simp [Addr.add]
set_option maxRecDepth 100000 in
set_option maxHeartbeats 1000000 in
theorem ref_Scale (p c : Nat) (fa : Option Addr) (fn fcap : Nat) (fl : List Nat) (w : World) (hf : Sl w fa fn fcap fl)
    (hp0 : 0 < p) (hp : p < 4294967296) (hcc : c < 4294967296) (hfn : fn ≤ 1099511627776) :
    Calls Tryd.prog 48 #[.agg #[.int .u32 p, .slice fa fn fcap], .int .u32 c] w
      (RetP p (trim ((List.range fn).map fun i => mulM p (nth fl i) c)) [] w) := by
  obtain ⟨i0, hi, hz0, hz1, hz2⟩ := info_parts Tryd.infoU'
  have hbx := boxes2 w #[.int .u32 (p : Int), .slice fa fn fcap] #[.int .u32 0, .slice none 0 0] 47 47
  have K : Hid (∀ W, Boxes w W [#[.int .u32 (p : Int), .slice fa fn fcap], #[.int .u32 0, .slice none 0 0]] → W.cell? ⟨w.heap.size, 0, none⟩ = some (.int .u32 (p : Int)) ∧ W.cell? ⟨w.heap.size, 1, none⟩ = some (.slice fa fn fcap) ∧ Boxes w W [#[.int .u32 (p : Int), .slice fa fn fcap], #[.int .u32 0, .slice none 0 0]]) :=
    fun W h => ⟨h.cell' 0 0 _ _ rfl rfl, h.cell' 0 1 _ _ rfl rfl, h⟩
  go_enter Tryd.func48, Tryd.ntmps48
  go_wp2
  go_loopw [5, 6] (fun v i wr => ∃ k : Nat, i = .int .i64 k ∧ k ≤ fn ∧ Gr wr 22 (w.heap.size + 2) v k ((List.range k).map fun i => mulM p (nth fl i) c) ∧ Boxes w wr [#[.int .u32 (p : Int), .slice fa fn fcap], #[.int .u32 0, .slice none 0 0]]) (fun _ i _ => fn - (intOf i).toNat)
  case atStart => exact ⟨0, rfl, Nat.zero_le _, Gr.nil _ _ _, hbx⟩
  case round =>
    clear hbx
    obtain ⟨k, rfl, hk, hG, hbx⟩ := hrel
    have d0 : wr.cell? ⟨w.heap.size, 0, none⟩ = some (.int .u32 (p : Int)) := hbx.cell' 0 0 _ _ rfl rfl
    have d1 : wr.cell? ⟨w.heap.size, 1, none⟩ = some (.slice fa fn fcap) := hbx.cell' 0 1 _ _ rfl rfl
    by_cases hkn : k < fn
    · go_wp2
      have hlt := hf.lt k
      obtain ⟨b1, b2⟩ := cMul_le hlt hcc
      have hm := mulM_lt p (nth fl k) c hp0
      have m1 : IntKind.u64.wrap ((nth fl k : Int) * (c : Int)) = (nth fl k : Int) * (c : Int) := IntWalk.u64_in _ (by omega)
      have m2 : ((nth fl k : Int) * (c : Int)).tmod (p : Int) = (mulM p (nth fl k) c : Int) := by rw [Int.tmod_eq_emod_of_nonneg b2, mulM_cast]
      have m3 : IntKind.u64.wrap (mulM p (nth fl k) c : Int) = (mulM p (nth fl k) c : Int) := IntWalk.u64_in _ (by omega)
      have m4 : IntKind.u32.wrap (mulM p (nth fl k) c : Int) = (mulM p (nth fl k) c : Int) := IntWalk.u32_in _ (by omega)
      have m5 : IntKind.u64.wrap (p : Int) = (p : Int) := IntWalk.u64_in _ (by omega)
      have m6 : IntKind.u64.wrap (c : Int) = (c : Int) := IntWalk.u64_in _ (by omega)
      have m7 : ((p : Int) == 0) = false := by simp; omega
      have m8 : ¬ p = 0 := by omega
      have q1 : k + 1 ≤ maxLen := by unfold maxLen; omega
      have q2 : (k + 1) * 4 ≤ 140737488355328 := by omega
      have q3 : ∀ u ∈ [Value.int .u32 (mulM p (nth fl k) c : Int)], u.oneCell' = true := by simp [Value.oneCell']
      have HG := Alg.hid hG
      have Q3 := Alg.hid q3
      clear hG q3
      go_region_held3 (fun W => W.cell? ⟨w.heap.size, 0, none⟩ = some (.int .u32 (p : Int)) ∧ W.cell? ⟨w.heap.size, 1, none⟩ = some (.slice fa fn fcap) ∧ Boxes w W [#[.int .u32 (p : Int), .slice fa fn fcap], #[.int .u32 0, .slice none 0 0]])
        (first | (exact K.out _ (by assumption)) | (exact K.out _ hbx.drew) | (exact K.out _ (Boxes.alloc_any (by assumption) _)) | fail)
        (first
          | (go_at_call 88; refine (ref_at p fa fn fcap fl k _ ((hf.mono hbx.below).drew)).mono ?_; rintro e w1 ⟨rfl, hb1⟩; have hx1 := hbx.drew.mono hb1; have hG1 := HG.out.drew.mono hb1)
          | (refine step_append_lies _ (by rfl) _ _ 23 (by rfl) (w.heap.size + 2) 22 i0 _ 1 4 Tryd.underlying23 hi hz0 hz1 hz2 rfl Nat.one_pos _ k (vals ((List.range k).map fun i => mulM p (nth fl i) c)) (by rfl) (hG1.own.alloc _) ⟨w1.heap.size, 0, none⟩ 1 1 [.int .u32 (mulM p (nth fl k) c : Int)] (by rfl) (by rfl) news_one Q3.out Nat.one_pos q1 q2 (Nat.le_trans hx1.size (size_le_alloc _ _)) (w1.heap.size + 1) (World.size_alloc _ _) ?_; intro gg cap w2 hown2 hgrow hat hlt2; have hx2 := (hx1.alloc_any (.cells #[.int .u32 (mulM p (nth fl k) c : Int)] 22)).grown hgrow (fun q e => HG.out.row q e)) | fail)
      clear m1 m2 m3 m4 m5 m6
      have hG2 := Gr.snoc hown2 hG1.lt (by omega)
      clear hown2 hgrow
      have HG2 := Alg.hid hG2
      clear hG2 hG1
      go_wp2
      go_roundw
      case rel => exact ⟨k + 1, by go_num, by omega, by rw [List.range_succ, List.map_append]; exact HG2.out, hx2⟩
      case measure => simp [intOf]; omega
    · have ek : k = fn := by omega
      obtain ⟨a0, cap0, rfl, hs0, hg0⟩ := hG.sl
      have EK := Alg.hid ek
      clear ek hG
      go_wp2_with fail
      refine (ref_cut p _ k cap0 _ _ hs0).mono ?_
      rintro e w' ⟨a', n', cap', rfl, hs', hb', hpv⟩
      have hbx' := hbx.mono hb'
      have e0 : w'.cell? ⟨w.heap.size + 1, 0, none⟩ = some (.int .u32 0) := hbx'.cell' 1 0 _ _ rfl rfl
      have e1 : w'.cell? ⟨w.heap.size + 1, 1, none⟩ = some (.slice none 0 0) := hbx'.cell' 1 1 _ _ rfl rfl
      have e2 : w'.frozen? ⟨w.heap.size + 1, 0, none⟩ = false := hbx'.frozen' 1 0 (by simp)
      have e3 : w'.frozen? ⟨w.heap.size + 1, 1, none⟩ = false := hbx'.frozen' 1 1 (by simp)
      go_wp2
      (try simp only [Exit.inBlock, Exit.then])
      refine bodyPost_ret (v := .agg #[.int .u32 (p : Int), .slice a' n' cap']) (by simp [results, Tryd.results48, go_sem, e0, e1]) rfl ?_
      have hlen := hs0.len
      have hof : Off a' n' (w.heap.size + 1) := own_off hpv hg0 hs' (by have := hbx.size; simp at this; omega) (by omega)
      rw [← EK.out]
      exact ⟨_, _, _, rfl, (hs'.setCell hof _).setCell hof _, ((hbx'.below.setCell (p := ⟨w.heap.size + 1, 0, none⟩) (by simp) _).setCell (p := ⟨w.heap.size + 1, 1, none⟩) (by simp) _), own_prov hpv hg0 hs' hbx.below.size (by omega)⟩
end Go.Proofs.YtbnjmeeaaieicaaDoor
end
section
open Alg Go Go.RowKit
namespace Go.Proofs.YtbnjmeeaaieicaaDoor
open Go.RowKit
theorem nat_trim (a : Option Addr) (n cap : Nat) (l : List Nat) (w : World) (h : Sl w a n cap l) :
    Calls Tryd.prog 128 #[.slice a n cap] w fun e w' => (∃ n', e = .returned (.slice a n' n') ∧ Sl w a n' n' (trim l)) ∧ w' = w := by
  have hle := h.le
  have hcap := h.cap
  go_enter Tryd.func128, Tryd.ntmps128
  go_wp2
  go_loop [0] (fun v => ∃ k : Nat, v = .slice a k cap ∧ k ≤ n ∧ Hid (∀ i, k ≤ i → i < n → nth l i = 0)) (fun v => match v with | .slice _ k _ => k | _ => 0)
  case atStart => exact ⟨n, rfl, Nat.le_refl _, fun i h1 h2 => by omega⟩
  case round =>
    obtain ⟨k, rfl, hk, hz⟩ := hrel
    by_cases k0 : k = 0
    · have HF : Hid (l.take k = trim l) := trim_nth l n k h.len hk hz.out (Or.inl k0)
      subst k0
      go_wp2
      go_returns
      have ht := (h.take (Nat.zero_le n)).narrow (Nat.le_refl _) (Nat.zero_le _)
      rw [HF.out] at ht
      exact ⟨⟨_, rfl, ht⟩, rfl⟩
    · have hb0 : (0 : Int) < k := by omega
      rcases h.rd with h0 | ⟨b, off, rfl, hc⟩
      · omega
      · have hc1 := hc (k - 1) (by omega)
        have hbl : b < w.heap.size := cell_lt hc1
        clear hc
        by_cases hx : nth l (k - 1) = 0
        · go_wp2
          go_round
          case rel =>
            refine ⟨k - 1, by go_num, by omega, fun i h1 h2 => ?_⟩
            by_cases e : i = k - 1
            · rw [e]; exact hx
            · exact hz.out i (by omega) h2
          case measure => simp; omega
        · have HF : Hid (l.take k = trim l) := trim_nth l n k h.len hk hz.out (Or.inr hx)
          go_wp2
          go_returns
          have ht := (h.take hk).narrow (Nat.le_refl _) (by omega)
          rw [HF.out] at ht
          exact ⟨⟨_, rfl, ht⟩, rfl⟩
/-- a number's limbs -/
def limbs (n : Nat) : List Nat := trim [n % 4294967296, n / 4294967296]
theorem nat_Of (n : Nat) (w : World) (hn : n < 18446744073709551616) :
    Calls Tryd.prog 111 #[.int .u64 n] w fun e w' => ∃ a m, e = .returned (.slice a m m) ∧ Sl w' a m m (limbs n) ∧ Below w.heap.size w w' ∧ Prov w [] a m := by
  have hq : n / 4294967296 < 4294967296 := by omega
  have hs : Sl (w.alloc (.cells #[.int .u32 ((n : Int) % 4294967296), .int .u32 ((n : Int) / 4294967296)] 22)) (some ⟨w.heap.size, 0, none⟩) 2 2 [n % 4294967296, n / 4294967296] := by
    refine ⟨rfl, Nat.le_refl _, by omega, fun i => ?_, Or.inr ⟨_, _, rfl, fun i hi => ?_⟩⟩
    · match i with
      | 0 => exact Nat.mod_lt _ (by omega)
      | 1 => exact hq
      | i + 2 => show ([] : List Nat).getD i 0 < _; simp
    · rw [cell_box]
      match i, hi with
      | 0, _ => show some (Value.int .u32 ((n : Int) % 4294967296)) = some (Value.int .u32 ((n % 4294967296 : Nat) : Int)); simp
      | 1, _ => show some (Value.int .u32 ((n : Int) / 4294967296)) = some (Value.int .u32 ((n / 4294967296 : Nat) : Int)); simp
  have HS := Alg.hid hs
  clear hs
  have e1 : IntKind.u32.wrap (n : Int) = (n : Int) % 4294967296 := by
    unfold IntKind.wrap
    simp only []
    split
    · rename_i h
      rw [show IntKind.u32.signed = false from rfl, Bool.false_and] at h
      cases h
    · rfl
  have e2 : IntKind.u32.wrap ((n : Int) / 4294967296) = (n : Int) / 4294967296 := IntWalk.u32_in _ (by omega)
  go_enter Tryd.func111, Tryd.ntmps111
  go_wp2_with fail
  refine (nat_trim _ 2 2 _ _ HS.out).mono ?_
  rintro e w1 ⟨⟨m, rfl, hm⟩, rfl⟩
  go_wp2
  go_ret
  exact ⟨_, _, rfl, hm, (Below.refl _ _).alloc (Nat.le_refl _) _, Or.inr (Or.inr ⟨_, _, _, rfl, Nat.le_refl _⟩)⟩
end Go.Proofs.YtbnjmeeaaieicaaDoor
end
section
open Alg Go Go.RowKit
namespace Go.Proofs.YtbnjmeeaaieicaaDoor
open Go.RowKit
set_option maxRecDepth 100000 in
theorem prime_Is5 (w : World) :
    Calls Tryd.prog 69 #[.int .u64 5] w fun e w' => e = .returned (.bool true) ∧ Below w.heap.size w w' := by
  have i0 : ∀ w, (Instr.index 103 (.agg #[.int .u64 2, .int .u64 3, .int .u64 5, .int .u64 7, .int .u64 11, .int .u64 13, .int .u64 17, .int .u64 19, .int .u64 23, .int .u64 29, .int .u64 31, .int .u64 37]) (.int .i64 0)).run Tryd.prog w = .ok (.int .u64 2) w := fun _ => by kernel_rfl
  have i1 : ∀ w, (Instr.index 103 (.agg #[.int .u64 2, .int .u64 3, .int .u64 5, .int .u64 7, .int .u64 11, .int .u64 13, .int .u64 17, .int .u64 19, .int .u64 23, .int .u64 29, .int .u64 31, .int .u64 37]) (.int .i64 1)).run Tryd.prog w = .ok (.int .u64 3) w := fun _ => by kernel_rfl
  have i2 : ∀ w, (Instr.index 103 (.agg #[.int .u64 2, .int .u64 3, .int .u64 5, .int .u64 7, .int .u64 11, .int .u64 13, .int .u64 17, .int .u64 19, .int .u64 23, .int .u64 29, .int .u64 31, .int .u64 37]) (.int .i64 2)).run Tryd.prog w = .ok (.int .u64 5) w := fun _ => by kernel_rfl
  go_enter Tryd.func69, Tryd.ntmps69
  go_wp2
  refine wp_scope_straight ?_
  go_wp2
  go_loopw [19] (fun v wr => (v = .int .i64 0 ∨ v = .int .i64 1 ∨ v = .int .i64 2) ∧ Below w.heap.size w wr) (fun v _ => 12 - (intOf v).toNat)
  case atStart => exact ⟨Or.inl rfl, by go_grown⟩
  case round =>
    obtain ⟨hv, hb⟩ := hrel
    rcases hv with rfl | rfl | rfl
    · go_wp2
      go_roundw
      case rel => exact ⟨Or.inr (Or.inl rfl), hb⟩
      case measure => simp [intOf]
    · go_wp2
      go_roundw
      case rel => exact ⟨Or.inr (Or.inr rfl), hb⟩
      case measure => simp [intOf]
    · go_wp2
      (try rw [Exit.noGoto_ret])
      go_ret
      exact ⟨rfl, hb⟩
theorem modp_Field5 (w : World) :
    Calls Tryd.prog 15 #[.int .u32 5] w fun e w' => e = .returned (.int .i64 0) ∧ Below w.heap.size w w' := by
  go_enter Tryd.func15, Tryd.ntmps15
  go_wp2_with fail
  refine (prime_Is5 _).mono ?_
  rintro e w' ⟨rfl, hb⟩
  go_wp2
  go_ret
  exact ⟨rfl, hb⟩
end Go.Proofs.YtbnjmeeaaieicaaDoor
end
