/- What a round of a power keeps, in plain words; boxes laid at any time, handed over. -/
import Derived.Test.YtcefhnmhcapccaaDoorW46
import Derived.Shelf.Spec.TrailingZeros
open Alg Go Go.RowKit
namespace Alg
/-- before bit number j: O is the power by the bits below, S the square for this bit (if any is to come) -/
structure PI (p : Nat) (f m : List Nat) (N j : Nat) (O S : List Nat) : Prop where
  eo : O = powL p f m (N % 2 ^ j)
  cs : Canon p S
  ls : S.length < m.length
  es : N / 2 ^ j ≠ 0 → S = powL p f m (2 ^ j)
section
variable {p : Nat} [NeZero p] {f m : List Nat} {N j : Nat} {O S : List Nat}
theorem PI.start (hp : IsPr p) (cf : Canon p f) (cm : Canon p m) (h0 : m ≠ []) (N : Nat) : PI p f m N 0 (remL p [1] m) (remL p f m) where
  eo := by rw [Nat.pow_zero, Nat.mod_one]; rfl
  cs := (remL_md hp cf cm h0).canon
  ls := (remL_md hp cf cm h0).len
  es := fun _ => by rw [Nat.pow_zero, powL_one hp cf cm h0]
omit [NeZero p] in
theorem PI.co (h : PI p f m N j O S) : O = powL p f m (N % 2 ^ j) := h.eo
theorem PI.one (hp : IsPr p) (cf : Canon p f) (cm : Canon p m) (h0 : m ≠ []) (h : PI p f m N j O S) (hb : N / 2 ^ j % 2 = 1) : remL p (mulL p O S) m = powL p f m (N % 2 ^ (j + 1)) := by
  rw [h.eo, h.es (fun e => by rw [e] at hb; omega), powL_add hp cf cm h0, low_step, hb, Nat.mul_one]
omit [NeZero p] in
theorem PI.zero (h : PI p f m N j O S) (hb : ¬ N / 2 ^ j % 2 = 1) : O = powL p f m (N % 2 ^ (j + 1)) := by
  rw [h.eo, low_step, show N / 2 ^ j % 2 = 0 by omega, Nat.mul_zero, Nat.add_zero]
theorem half_div (N j : Nat) : N / 2 ^ (j + 1) = N / 2 ^ j / 2 := by rw [Nat.pow_succ, Nat.div_div_eq_div_mul]
theorem PI.sq (hp : IsPr p) (cf : Canon p f) (cm : Canon p m) (h0 : m ≠ []) (h : PI p f m N j O S) {O' : List Nat} (ho : O' = powL p f m (N % 2 ^ (j + 1))) : PI p f m N (j + 1) O' (remL p (mulL p S S) m) where
  eo := ho
  cs := (remL_md hp (mulL_ok S S).2 cm h0).canon
  ls := (remL_md hp (mulL_ok S S).2 cm h0).len
  es := fun hn => by
    rw [half_div] at hn
    rw [h.es (fun e => by rw [e] at hn; exact hn rfl), powL_add hp cf cm h0, ← Nat.two_mul, Nat.pow_succ, Nat.mul_comm]
omit [NeZero p] in
theorem PI.keep (h : PI p f m N j O S) {O' : List Nat} (ho : O' = powL p f m (N % 2 ^ (j + 1))) (hz : N / 2 ^ (j + 1) = 0) : PI p f m N (j + 1) O' S where
  eo := ho
  cs := h.cs
  ls := h.ls
  es := fun hn => absurd hz hn
theorem powL_canon (hp : IsPr p) (cf : Canon p f) (cm : Canon p m) (h0 : m ≠ []) (n : Nat) : Canon p (powL p f m n) ∧ (powL p f m n).length < m.length :=
  ⟨(powL_md hp cf cm h0 n).canon, (powL_md hp cf cm h0 n).len⟩
end
/-- behind the last limb's last bits nothing is left -/
theorem top_small (l : List Nat) (h : ∀ i, nth l i < 4294967296) (i k : Nat) (hi : i + 1 = l.length) (hk : nth l i / 2 ^ k ≤ 1) : valN l / 2 ^ (32 * i + k + 1) = 0 := by
  have h1 := valN_take l h i
  have h2 := valN_lt l h
  have e : 4294967296 ^ i = 2 ^ (32 * i) := by rw [Nat.pow_mul]
  have h3 : valN l / 4294967296 ^ i < 4294967296 := by
    rw [Nat.div_lt_iff_lt_mul (Nat.pow_pos (by omega))]
    rw [← hi, Nat.pow_succ] at h2
    rw [Nat.mul_comm]; exact h2
  rw [Nat.mod_eq_of_lt h3, e] at h1
  rw [half_div, Nat.pow_add, ← Nat.div_div_eq_div_mul, ← h1]
  exact Nat.div_eq_of_lt (Nat.lt_succ_of_le hk)
theorem done_all (l : List Nat) (h : ∀ i, nth l i < 4294967296) : valN l % 2 ^ (32 * l.length) = valN l := by
  refine Nat.mod_eq_of_lt ?_
  have := valN_lt l h
  have e : 4294967296 ^ l.length = 2 ^ (32 * l.length) := by rw [Nat.pow_mul]
  omega
theorem and_one_u32 (m : Nat) (h : m < 4294967296) : bits BinOp.and IntKind.u32 (m : Int) 1 = ((m % 2 : Nat) : Int) := by
  have h1 := Go.Proofs.bits_and_u32_nat m 1 h (by omega)
  rw [Nat.and_one_is_mod] at h1
  exact h1
theorem bit_is32 (n k : Nat) (h : n < 4294967296) : bits BinOp.and IntKind.u32 ((n : Int) / 2 ^ k) 1 = ((n / 2 ^ k % 2 : Nat) : Int) := by
  have h1 : n / 2 ^ k ≤ n := Nat.div_le_self _ _
  have e : (n : Int) / 2 ^ k = ((n / 2 ^ k : Nat) : Int) := by simp
  rw [e, and_one_u32 _ (by omega)]
theorem bit_yes32 (n k : Nat) (h : n < 4294967296) (hb : n / 2 ^ k % 2 = 1) : (bits BinOp.and IntKind.u32 ((n : Int) / 2 ^ k) 1 == 1) = true := by
  rw [bit_is32 n k h, hb]; rfl
theorem bit_no32 (n k : Nat) (h : n < 4294967296) (hb : ¬ n / 2 ^ k % 2 = 1) : (bits BinOp.and IntKind.u32 ((n : Int) / 2 ^ k) 1 == 1) = false := by
  rw [bit_is32 n k h, show n / 2 ^ k % 2 = 0 by omega]; rfl
/-- a canonical row does not lie in a new box -/
theorem off_new {W : World} {b p : Nat} {T : TypeId} {a : Option Addr} {n c : Nat} {l : List Nat} (h : W.heap[b]? = some (.cells #[.int .u32 0, .slice none 0 0] T)) (s : Sl W a n c l) (cl : Canon p l) : Off a n b := by
  rcases s.rd with h1 | ⟨b', off, rfl, hc⟩
  · exact Or.inl h1
  by_cases hn : n = 0
  · exact Or.inl hn
  refine Or.inr (fun b2 o2 s2 he hb => ?_)
  simp only [Option.some.injEq, Addr.mk.injEq] at he
  obtain ⟨rfl, _, _⟩ := he
  subst hb
  have h2 := ((obj_cells h).2.1 _).symm.trans (hc (n - 1) (by omega))
  have hl := s.len
  have h3 : nth l (n - 1) ≠ 0 := by
    rcases cl.top with h | h
    · rw [h] at hl; simp at hl; omega
    · rw [← hl]; exact h
  generalize off + (n - 1) = j at h2
  match j, h2 with
  | 0, h2 => simp at h2; omega
  | 1, h2 => simp at h2
  | j + 2, h2 => simp at h2
theorem box_of_obj {W : World} {b : Nat} {cs : Array Value} {T : TypeId} (h : W.heap[b]? = some (.cells cs T)) : Box W b cs :=
  ⟨(obj_cells h).1, fun i _ hv => ((obj_cells h).2.1 i).trans hv, (obj_cells h).2.2⟩
theorem PW.start {w W : World} {L : List (Array Value)} {p b c r : Nat} {T U : TypeId} {O S : List Nat} (bx : Boxes w W L) (hb : w.heap.size + L.length ≤ b) (hc : w.heap.size + L.length ≤ c) (ne : b ≠ c)
    (ob : W.heap[b]? = some (.cells #[.int .u32 0, .slice none 0 0] T)) (oc : W.heap[c]? = some (.cells #[.int .u32 0, .slice none 0 0] U)) (hr : r < w.heap.size + L.length)
    {a : Option Addr} {n cap : Nat} {a' : Option Addr} {n' cap' : Nat} (sO : Sl W a n cap O) (sS : Sl W a' n' cap' S) (cO : Canon p O) (cS : Canon p S) (pO : Off a n r ∧ Prov w [] a n) (pS : Off a' n' r ∧ Prov w [] a' n') :
    PW w ((((W.setCell ⟨b, 0, none⟩ (.int .u32 (p : Int))).setCell ⟨b, 1, none⟩ (.slice a n cap)).setCell ⟨c, 0, none⟩ (.int .u32 (p : Int))).setCell ⟨c, 1, none⟩ (.slice a' n' cap')) L p b c [b, c, r] O S := by
  have o1 := off_new ob sO cO
  have o2 := off_new oc sO cO
  have o3 := off_new ob sS cS
  have o4 := off_new oc sS cS
  have xb := box_of_obj ob
  have xc := box_of_obj oc
  have two : ∀ {P : Nat → Prop}, P b → P c → P r → ∀ x ∈ [b, c, r], P x := fun h1 h2 h3 x hx => by
    rcases List.mem_cons.1 hx with e | hx
    · rw [e]; exact h1
    · rcases List.mem_cons.1 hx with e | hx
      · rw [e]; exact h2
      · rw [List.mem_singleton.1 hx]; exact h3
  have hsz := bx.size
  refine ⟨(bx.set2 hb _ _).set2 hc _ _, hb, hc, ne, ?_, ⟨a, n, cap, (xb.put2 _ _).other2 ne _ _, (sO.set2 o1 _ _).set2 o2 _ _, two o1 o2 pO.1, pO.2⟩, ⟨a', n', cap', (xc.other2 (fun e => ne e.symm) _ _).put2 _ _, (sS.set2 o3 _ _).set2 o4 _ _, two o3 o4 pS.1, pS.2⟩⟩
  rw [size_set2, size_set2]
  exact two (P := fun x => x < W.heap.size) xb.lt xc.lt (by omega)
theorem good2 {x y : Lay} {w0 w : World} {bl : Nat → Option Nat} (hne : x.op ≠ y.op) (hS : ∀ z ∈ [x, y], (bl z.op).isSome = true) (hG : Good [x, y] w0 bl w) :
    ∃ b c, (∀ a, acts [x, y] bl a = (a.put (some x.dst) (.pointer (some ⟨b, 0, none⟩))).put (some y.dst) (.pointer (some ⟨c, 0, none⟩))) ∧ b ≠ c ∧ w0.heap.size ≤ b ∧ w0.heap.size ≤ c ∧ w.heap[b]? = some (.cells x.cs x.ty) ∧ w.heap[c]? = some (.cells y.cs y.ty) := by
  have mx : x ∈ [x, y] := by simp
  have my : y ∈ [x, y] := by simp
  obtain ⟨b, eb⟩ := Option.isSome_iff_exists.1 (hS x mx)
  obtain ⟨c, ec⟩ := Option.isSome_iff_exists.1 (hS y my)
  obtain ⟨b1, b2⟩ := hG.obj x mx b eb
  obtain ⟨c1, c2⟩ := hG.obj y my c ec
  refine ⟨b, c, fun a => ?_, fun e => hG.ne x mx y my hne b eb (by rw [e]; exact ec), b1, c1, b2, c2⟩
  show act1 bl y (act1 bl x a) = _
  rw [act1_some eb, act1_some ec]
theorem good1 {x : Lay} {w0 w : World} {bl : Nat → Option Nat} (hS : ∀ z ∈ [x], (bl z.op).isSome = true) (hG : Good [x] w0 bl w) :
    ∃ b, (∀ a, acts [x] bl a = a.put (some x.dst) (.pointer (some ⟨b, 0, none⟩))) ∧ w0.heap.size ≤ b ∧ w.heap[b]? = some (.cells x.cs x.ty) := by
  have mx : x ∈ [x] := by simp
  obtain ⟨b, eb⟩ := Option.isSome_iff_exists.1 (hS x mx)
  obtain ⟨b1, b2⟩ := hG.obj x mx b eb
  refine ⟨b, fun a => ?_, b1, b2⟩
  show act1 bl x a = _
  rw [act1_some eb]
end Alg
