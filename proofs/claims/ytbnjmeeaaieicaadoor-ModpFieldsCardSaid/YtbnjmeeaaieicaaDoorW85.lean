/- Contracts of the reference's plus and less of sizes. -/
import Derived.Test.YtbnjmeeaaieicaaDoorW84
open Alg Go Go.RowKit
namespace Alg
/-- the call hands back limbs of this number -/
def RetV (V : Nat) (w : World) (e : Ending) (w' : World) : Prop :=
  ∃ a n cap l, e = .returned (.slice a n cap) ∧ Sl w' a n cap l ∧ valN l = V ∧ n ≤ 1000000000 ∧ Below w.heap.size w w' ∧ Prov w [] a n
theorem valN_snoc (l : List Nat) (s : Nat) : valN (l ++ [s]) = valN l + 4294967296 ^ l.length * s := by
  induction l with
  | nil => show s + 4294967296 * 0 = 0 + 1 * s; omega
  | cons c l ih => rw [List.cons_append, valN_cons, ih, valN_cons, List.length_cons, Nat.pow_succ', Nat.mul_add, Nat.mul_assoc]; omega
structure AddP (la lb out : List Nat) (k c : Nat) : Prop where
  len : out.length = k
  val : valN out + 4294967296 ^ k * c = valN (la.take k) + valN (lb.take k)
theorem AddP.start (la lb : List Nat) : AddP la lb [] 0 0 := ⟨rfl, by simp [valN]⟩
theorem AddP.step {la lb out : List Nat} {k c : Nat} (h : AddP la lb out k c) : AddP la lb (out ++ [(c + nth la k + nth lb k) % 4294967296]) (k + 1) ((c + nth la k + nth lb k) / 4294967296) := by
  refine ⟨by rw [List.length_append, h.len]; rfl, ?_⟩
  have h1 := h.val
  have h3 := Nat.mod_add_div (c + nth la k + nth lb k) 4294967296
  rw [valN_snoc, h.len, valN_take_succ, valN_take_succ, Nat.pow_succ, Nat.mul_assoc]
  generalize (c + nth la k + nth lb k) % 4294967296 = s at *
  generalize (c + nth la k + nth lb k) / 4294967296 = c' at *
  have h4 : 4294967296 ^ k * s + 4294967296 ^ k * (4294967296 * c') = 4294967296 ^ k * c + 4294967296 ^ k * nth la k + 4294967296 ^ k * nth lb k := by
    rw [← Nat.mul_add, h3, Nat.mul_add, Nat.mul_add]
  omega
theorem AddP.none {la lb out : List Nat} {N c : Nat} (h : AddP la lb out (N + 1) c) (ba : ∀ i, nth la i < 4294967296) (bb : ∀ i, nth lb i < 4294967296) (hla : la.length ≤ N) (hlb : lb.length ≤ N) : c = 0 := by
  have h1 := h.val
  rw [valN_take_all (by omega), valN_take_all (by omega)] at h1
  have h2 := valN_lt la ba
  have h3 := valN_lt lb bb
  have h4 : 4294967296 ^ la.length ≤ 4294967296 ^ N := Nat.pow_le_pow_right (by omega) hla
  have h5 : 4294967296 ^ lb.length ≤ 4294967296 ^ N := Nat.pow_le_pow_right (by omega) hlb
  rw [Nat.pow_succ] at h1
  exact no_carry h1 (Nat.lt_of_lt_of_le h2 h4) (Nat.lt_of_lt_of_le h3 h5) (by decide)
theorem AddP.done {la lb out : List Nat} {k : Nat} (h : AddP la lb out k 0) (hla : la.length ≤ k) (hlb : lb.length ≤ k) : valN out = valN la + valN lb := by
  have h1 := h.val
  rw [valN_take_all hla, valN_take_all hlb] at h1
  simpa using h1
structure SubP (la lb out : List Nat) (k c : Nat) : Prop where
  len : out.length = k
  val : valN out + valN (lb.take k) = valN (la.take k) + 4294967296 ^ k * c
theorem SubP.start (la lb : List Nat) : SubP la lb [] 0 0 := ⟨rfl, by simp [valN]⟩
theorem SubP.step {la lb out : List Nat} {k c s c' : Nat} (h : SubP la lb out k c) (hs : s + nth lb k + c = nth la k + 4294967296 * c') : SubP la lb (out ++ [s]) (k + 1) c' := by
  refine ⟨by rw [List.length_append, h.len]; rfl, ?_⟩
  have h1 := h.val
  rw [valN_snoc, h.len, valN_take_succ, valN_take_succ, Nat.pow_succ, Nat.mul_assoc]
  have h4 : 4294967296 ^ k * s + 4294967296 ^ k * nth lb k + 4294967296 ^ k * c = 4294967296 ^ k * nth la k + 4294967296 ^ k * (4294967296 * c') := by
    rw [← Nat.mul_add, ← Nat.mul_add, hs, Nat.mul_add]
  omega
theorem SubP.done {la lb out : List Nat} {k c : Nat} (h : SubP la lb out k c) (bo : ∀ i, nth out i < 4294967296) (hla : la.length ≤ k) (hlb : lb.length ≤ k) (hle : valN lb ≤ valN la) : valN out = valN la - valN lb := by
  have h1 := h.val
  rw [valN_take_all hla, valN_take_all hlb] at h1
  have h2 := valN_lt out bo
  rw [h.len] at h2
  rcases Nat.eq_zero_or_pos c with rfl | h3
  · omega
  · have h4 : 4294967296 ^ k * 1 ≤ 4294967296 ^ k * c := Nat.mul_le_mul_left _ h3
    omega
end Alg
namespace Go.Proofs.YtbnjmeeaaieicaaDoor
open Go.RowKit
set_option maxRecDepth 100000 in
set_option maxHeartbeats 2000000 in
theorem ref02_plus (a : Option Addr) (n cap : Nat) (la : List Nat) (b : Option Addr) (m cap' : Nat) (lb : List Nat) (w : World) (ha : Sl w a n cap la) (hb : Sl w b m cap' lb) (hn : n ≤ 1000000) (hm : m ≤ 1000000) :
    Calls Tryd.prog 152 #[.slice a n cap, .slice b m cap'] w (RetV (valN la + valN lb) w) := by
  obtain ⟨i0, hi, hz0, hz1, hz2⟩ := info_parts Tryd.infoN
  have HAL := Alg.hid ha.len
  have HBL := Alg.hid hb.len
  obtain ⟨N, hN⟩ : ∃ N, N = max n m := ⟨_, rfl⟩
  have hnN : n ≤ N := by omega
  have hmN : m ≤ N := by omega
  have hNl : N ≤ 1000000 := by omega
  have HNC : Hid (N = max n m) := hN
  clear hN
  go_enter Tryd.func152, Tryd.ntmps152
  go_wp2
  go_loopw [5, 6, 7] (fun vo cc i wr => ∃ k c : Nat, ∃ out : List Nat, i = .int .i64 k ∧ cc = .int .u64 c ∧ k ≤ N + 1 ∧ c ≤ 1 ∧ Hid (AddP la lb out k c) ∧ Hid (Gr wr 22 w.heap.size vo k out) ∧ Hid (Below w.heap.size w wr)) (fun _ _ i _ => N + 2 - (intOf i).toNat)
  case atStart => exact ⟨0, 0, [], rfl, rfl, Nat.zero_le _, by omega, AddP.start _ _, Gr.nil _ _ _, Below.refl _ _⟩
  case round =>
    obtain ⟨k, c, out, rfl, rfl, hk, hc, hI, hG, hbw⟩ := hrel
    by_cases hend : k < n ∨ k < m ∨ 0 < c
    · have hkN : k ≤ N := by
        rcases Nat.lt_or_ge N k with h | h
        · obtain rfl : k = N + 1 := by omega
          have := hI.out.none ha.lt hb.lt (by rw [HAL.out]; exact hnN) (by rw [HBL.out]; exact hmN)
          omega
        · exact h
      have s1 : k + 1 ≤ maxLen := by unfold maxLen; omega
      have s2 : (k + 1) * 4 ≤ 140737488355328 := by omega
      obtain ⟨x, hx⟩ : ∃ x, x = nth la k := ⟨_, rfl⟩
      have hxl : x < 4294967296 := by rw [hx]; exact ha.lt k
      obtain ⟨y, hy⟩ : ∃ y, y = nth lb k := ⟨_, rfl⟩
      have hyl : y < 4294967296 := by rw [hy]; exact hb.lt k
      obtain ⟨Z, hZ⟩ : ∃ Z, Z = c + x + y := ⟨_, rfl⟩
      have eZ : (c : Int) + (x : Int) + (y : Int) = (Z : Int) := by omega
      have hZl : Z < 8589934592 := by omega
      obtain ⟨s, hs⟩ : ∃ s, s = Z % 4294967296 := ⟨_, rfl⟩
      obtain ⟨c', hc'⟩ : ∃ c', c' = Z / 4294967296 := ⟨_, rfl⟩
      have hsl : s < 4294967296 := by omega
      have hcl : c' ≤ 1 := by omega
      have es : IntKind.u32.wrap (Z : Int) = (s : Int) := by
        simp only [IntKind.wrap, IntKind.signed, IntKind.bits]; simp; omega
      have ec : (Z : Int) / 4294967296 = (c' : Int) := by omega
      have HN : Hid (AddP la lb (out ++ [s]) (k + 1) c') := by
        rw [hs, hc', hZ, hx, hy]; exact hI.out.step
      have HX := Alg.hid hx
      have HY := Alg.hid hy
      have q1 : ∀ u ∈ [Value.int .u32 (s : Int)], u.oneCell' = true := by simp [Value.oneCell']
      have Q1 := Alg.hid q1
      have hcond : ((k : Int) < (n : Int)) ∨ (¬ (k : Int) < (n : Int) ∧ (k : Int) < (m : Int)) ∨ (¬ (k : Int) < (n : Int) ∧ ¬ (k : Int) < (m : Int) ∧ (0 : Int) < (c : Int)) := by omega
      clear hx hy hs hc' hI hZ q1 hend
      rcases hcond with h1 | ⟨h1, h2⟩ | ⟨h1, h2, h3⟩
      all_goals
        go_wp2_with fail
        refine (ref02_limb a n cap la k _ (ha.mono hbw.out)).mono ?_
        rw [← HX.out]
        rintro e w' ⟨rfl, rfl⟩
        go_wp2_with fail
        refine (ref02_limb b m cap' lb k _ (hb.mono hbw.out)).mono ?_
        rw [← HY.out]
        rintro e wq ⟨rfl, rfl⟩
        go_wp2_with (at_builtin; refine wpList_append_lies _ rfl _ _ 23 rfl w.heap.size 22 i0 (.int .u32 0) 1 4 Tryd.underlying23 hi hz0 hz1 hz2 rfl Nat.one_pos _ k (vals out) rfl (hG.out.own.alloc _) ⟨wq.heap.size, 0, none⟩ 1 1 [.int .u32 (s : Int)] rfl rfl news_one Q1.out Nat.one_pos s1 s2 (Nat.le_trans hbw.out.size (size_le_alloc _ _)) (wq.heap.size + 1) (World.size_alloc _ _) ?_; intro g1 c1 w1 hown1 hgrow1 hat1 hlt1; have HB1 := Alg.hid ((balloc hbw.out (.cells #[.int .u32 (s : Int)] 22)).grown hgrow1 (Nat.le_trans hbw.out.size (size_le_alloc _ _)) (fun q hq => hG.out.row q hq)))
        have hG2 := Gr.snoc hown1 hG.out.lt hsl
        go_roundw
        case rel => exact ⟨k + 1, c', out ++ [s], by go_num, by first | rfl | rw [ec], by omega, hcl, HN, hG2, HB1⟩
        case measure => simp [intOf]; omega
    · have h1 : ¬ (k : Int) < (n : Int) := by omega
      have h2 : ¬ (k : Int) < (m : Int) := by omega
      obtain rfl : c = 0 := by omega
      have HD : Hid (valN out = valN la + valN lb) := hI.out.done (by rw [HAL.out]; omega) (by rw [HBL.out]; omega)
      clear hI hend
      obtain ⟨a0, cap0, rfl, hs0, hg0⟩ := hG.out.sl
      go_wp2
      go_ret
      refine ⟨a0, k, cap0, out, rfl, hs0, HD.out, by omega, hbw.out, ?_⟩
      rcases hg0 with h0 | ⟨g, rfl, hg⟩
      · exact Or.inl h0
      · exact Or.inr (Or.inr ⟨g, 0, none, rfl, hg⟩)

set_option maxRecDepth 100000 in
set_option maxHeartbeats 2000000 in
theorem ref02_less (a : Option Addr) (n cap : Nat) (la : List Nat) (b : Option Addr) (m cap' : Nat) (lb : List Nat) (w : World) (ha : Sl w a n cap la) (hb : Sl w b m cap' lb) (hn : n ≤ 1000000) (hmn : m ≤ n) (hle : valN lb ≤ valN la) :
    Calls Tryd.prog 154 #[.slice a n cap, .slice b m cap'] w (RetV (valN la - valN lb) w) := by
  obtain ⟨i0, hi, hz0, hz1, hz2⟩ := info_parts Tryd.infoN
  have HAL := Alg.hid ha.len
  have HBL := Alg.hid hb.len
  have HLE := Alg.hid hle
  clear hle
  go_enter Tryd.func154, Tryd.ntmps154
  go_wp2
  go_loopw [5, 6, 7] (fun vo cc i wr => ∃ k c : Nat, ∃ out : List Nat, i = .int .i64 k ∧ cc = .int .u64 c ∧ k ≤ n ∧ c ≤ 1 ∧ Hid (SubP la lb out k c) ∧ Hid (Gr wr 22 w.heap.size vo k out) ∧ Hid (Below w.heap.size w wr)) (fun _ _ i _ => n - (intOf i).toNat)
  case atStart => exact ⟨0, 0, [], rfl, rfl, Nat.zero_le _, by omega, SubP.start _ _, Gr.nil _ _ _, Below.refl _ _⟩
  case round =>
    obtain ⟨k, c, out, rfl, rfl, hk, hc, hI, hG, hbw⟩ := hrel
    by_cases hkn : k < n
    · have hkn' : (k : Int) < (n : Int) := by omega
      have s1 : k + 1 ≤ maxLen := by unfold maxLen; omega
      have s2 : (k + 1) * 4 ≤ 140737488355328 := by omega
      obtain ⟨x, hx⟩ : ∃ x, x = nth la k := ⟨_, rfl⟩
      have hxl : x < 4294967296 := by rw [hx]; exact ha.lt k
      obtain ⟨y, hy⟩ : ∃ y, y = nth lb k := ⟨_, rfl⟩
      have hyl : y < 4294967296 := by rw [hy]; exact hb.lt k
      obtain ⟨Z, hZ⟩ : ∃ Z, Z = 4294967296 + x - y - c := ⟨_, rfl⟩
      have eZ : 4294967296 + (x : Int) - (y : Int) - (c : Int) = (Z : Int) := by omega
      obtain ⟨s, hs⟩ : ∃ s, s = Z % 4294967296 := ⟨_, rfl⟩
      obtain ⟨t, ht⟩ : ∃ t, t = Z / 4294967296 := ⟨_, rfl⟩
      obtain ⟨c', hc'⟩ : ∃ c', c' = 1 - t := ⟨_, rfl⟩
      have hZl : Z < 8589934592 := by omega
      have es : IntKind.u32.wrap (Z : Int) = (s : Int) := by
        simp only [IntKind.wrap, IntKind.signed, IntKind.bits]; simp; omega
      have et : (Z : Int) / 4294967296 = (t : Int) := by omega
      have ht1 : t ≤ 1 := by omega
      have ec : 1 - (t : Int) = (c' : Int) := by omega
      have hsl : s < 4294967296 := by omega
      have hcl : c' ≤ 1 := by omega
      have HN : Hid (SubP la lb (out ++ [s]) (k + 1) c') := hI.out.step (by rw [← hx, ← hy]; omega)
      have HX := Alg.hid hx
      have HY := Alg.hid hy
      have q1 : ∀ u ∈ [Value.int .u32 (s : Int)], u.oneCell' = true := by simp [Value.oneCell']
      have Q1 := Alg.hid q1
      clear hx hy hs hc' hI hZ ht q1
      go_wp2_with fail
      refine (ref02_limb a n cap la k _ (ha.mono hbw.out)).mono ?_
      rw [← HX.out]
      rintro e w' ⟨rfl, rfl⟩
      go_wp2_with fail
      refine (ref02_limb b m cap' lb k _ (hb.mono hbw.out)).mono ?_
      rw [← HY.out]
      rintro e wq ⟨rfl, rfl⟩
      go_wp2_with (at_builtin; refine wpList_append_lies _ rfl _ _ 23 rfl w.heap.size 22 i0 (.int .u32 0) 1 4 Tryd.underlying23 hi hz0 hz1 hz2 rfl Nat.one_pos _ k (vals out) rfl (hG.out.own.alloc _) ⟨wq.heap.size, 0, none⟩ 1 1 [.int .u32 (s : Int)] rfl rfl news_one Q1.out Nat.one_pos s1 s2 (Nat.le_trans hbw.out.size (size_le_alloc _ _)) (wq.heap.size + 1) (World.size_alloc _ _) ?_; intro g1 c1 w1 hown1 hgrow1 hat1 hlt1; have HB1 := Alg.hid ((balloc hbw.out (.cells #[.int .u32 (s : Int)] 22)).grown hgrow1 (Nat.le_trans hbw.out.size (size_le_alloc _ _)) (fun q hq => hG.out.row q hq)))
      have hG2 := Gr.snoc hown1 hG.out.lt hsl
      go_roundw
      case rel => exact ⟨k + 1, c', out ++ [s], by go_num, rfl, by omega, hcl, HN, hG2, HB1⟩
      case measure => simp [intOf]; omega
    · obtain rfl : k = n := by omega
      have HD : Hid (valN out = valN la - valN lb) := hI.out.done hG.out.lt (by rw [HAL.out]; omega) (by rw [HBL.out]; omega) HLE.out
      clear hI hkn
      obtain ⟨a0, cap0, rfl, hs0, hg0⟩ := hG.out.sl
      go_wp2
      go_ret
      refine ⟨a0, k, cap0, out, rfl, hs0, HD.out, by omega, hbw.out, ?_⟩
      rcases hg0 with h0 | ⟨g, rfl, hg⟩
      · exact Or.inl h0
      · exact Or.inr (Or.inr ⟨g, 0, none, rfl, hg⟩)

end Go.Proofs.YtbnjmeeaaieicaaDoor
