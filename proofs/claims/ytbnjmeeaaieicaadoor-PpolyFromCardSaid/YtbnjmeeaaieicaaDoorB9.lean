/- Whole numbers as lists of limbs: in plain words. Sums, differences, comparisons and quotients, limb by limb: in plain words. -/
import Derived.Test.YtbnjmeeaaieicaaDoorA16
import Derived.Test.YtbnjmeeaaieicaaDoorE2
section
open Alg
namespace Alg
/-- the limbs of a number -/
def lim (n : Nat) : List Nat := if h : n = 0 then [] else n % 4294967296 :: lim (n / 4294967296)
termination_by n
decreasing_by omega
theorem lim_zero : lim 0 = [] := by rw [lim]; simp
theorem lim_pos {n : Nat} (h : n ≠ 0) : lim n = n % 4294967296 :: lim (n / 4294967296) := by rw [lim]; simp [h]
theorem valN_cons (c : Nat) (l : List Nat) : valN (c :: l) = c + 4294967296 * valN l := rfl
theorem valN_nil : valN [] = 0 := rfl
theorem valN_trim : ∀ l : List Nat, valN (trim l) = valN l
  | [] => rfl
  | a :: l => by
    have ih := valN_trim l
    unfold trim
    by_cases h : trim l = [] ∧ a = 0
    · rw [if_pos h, valN_cons, ← ih, h.1, h.2]; rfl
    · rw [if_neg h, valN_cons, valN_cons, ih]
theorem valN_lim (n : Nat) : valN (lim n) = n := by
  induction n using Nat.strongRecOn with
  | _ n ih =>
    by_cases h : n = 0
    · subst h; rw [lim_zero]; rfl
    · rw [lim_pos h, valN_cons, ih _ (by omega)]; omega
theorem top_tail {a : Nat} {l : List Nat} (h : Top (a :: l)) : Top l := by
  rcases l with _ | ⟨b, l⟩
  · exact Or.inl rfl
  · right
    rcases h with h | h
    · cases h
    · simpa using h
theorem top_valN : ∀ {l : List Nat}, Top l → valN l = 0 → l = []
  | [], _, _ => rfl
  | a :: l, h, h0 => by
    rw [valN_cons] at h0
    have hl := top_valN (top_tail h) (by omega)
    subst hl
    rcases h with h | h
    · exact h
    · have : a = 0 := by omega
      subst this
      exact absurd rfl h
theorem Canon.tail {p a : Nat} {l : List Nat} (h : Canon p (a :: l)) : Canon p l := ⟨fun c hc => h.lt c (List.mem_cons_of_mem _ hc), top_tail h.top⟩
theorem valN_inj : ∀ {l m : List Nat}, Canon 4294967296 l → Canon 4294967296 m → valN l = valN m → l = m
  | [], m, _, hm, h => (top_valN hm.top (by rw [← h]; rfl)).symm
  | a :: l, [], hl, _, h => top_valN hl.top (by rw [h]; rfl)
  | a :: l, b :: m, hl, hm, h => by
    rw [valN_cons, valN_cons] at h
    have ha := hl.lt a List.mem_cons_self
    have hb := hm.lt b List.mem_cons_self
    have e1 : a = b := by omega
    have e2 : valN l = valN m := by omega
    rw [e1, valN_inj hl.tail hm.tail e2]
theorem lim_ne {n : Nat} (h : n ≠ 0) : lim n ≠ [] := by rw [lim_pos h]; simp
theorem lim_canon (n : Nat) : Canon 4294967296 (lim n) := by
  induction n using Nat.strongRecOn with
  | _ n ih =>
    by_cases h : n = 0
    · subst h; rw [lim_zero]; exact canon_nil
    · have k := ih (n / 4294967296) (by omega)
      rw [lim_pos h]
      refine ⟨fun c hc => ?_, ?_⟩
      · rcases List.mem_cons.1 hc with e | hc
        · subst e; exact Nat.mod_lt _ (by omega)
        · exact k.lt c hc
      · right
        by_cases h1 : n / 4294967296 = 0
        · rw [h1, lim_zero]
          show n % 4294967296 ≠ 0
          omega
        · rcases k.top with h2 | h2
          · exact absurd h2 (lim_ne h1)
          · have hl : (lim (n / 4294967296)).length ≠ 0 := fun e => lim_ne h1 (List.length_eq_zero_iff.1 e)
            rw [List.length_cons, Nat.add_sub_cancel]
            obtain ⟨j, hj⟩ : ∃ j, (lim (n / 4294967296)).length = j + 1 := ⟨_, (Nat.succ_pred_eq_of_ne_zero hl).symm⟩
            rw [hj] at h2 ⊢
            simpa using h2
theorem lim_valN {l : List Nat} (h : Canon 4294967296 l) : lim (valN l) = l := valN_inj (lim_canon _) h (valN_lim _)
theorem mem_nth {l : List Nat} {c : Nat} (h : c ∈ l) : ∃ i, nth l i = c := by
  obtain ⟨i, hi, e⟩ := List.mem_iff_getElem.1 h
  exact ⟨i, by unfold nth; rw [List.getD_eq_getElem?_getD, List.getElem?_eq_getElem hi, e]; rfl⟩
theorem trim_lim {l : List Nat} (h : ∀ i, nth l i < 4294967296) : trim l = lim (valN l) := by
  have hc : Canon 4294967296 (trim l) := Canon.trim fun c hc => by
    obtain ⟨i, rfl⟩ := mem_nth hc
    exact h i
  rw [← valN_trim l, lim_valN hc]
theorem limbs_lim {n : Nat} (h : n < 18446744073709551616) : Go.Proofs.YtbnjmeeaaieicaaDoor.limbs n = lim n := by
  unfold Go.Proofs.YtbnjmeeaaieicaaDoor.limbs
  rw [trim_lim (fun i => by
    match i with
    | 0 => show n % 4294967296 < _; omega
    | 1 => show n / 4294967296 < _; omega
    | i + 2 => show ([] : List Nat).getD i 0 < _; simp)]
  congr 1
  show n % 4294967296 + 4294967296 * (n / 4294967296 + 4294967296 * 0) = n
  omega
/-- one limb more -/
theorem valN_take_succ : ∀ (l : List Nat) (k : Nat), valN (l.take (k + 1)) = valN (l.take k) + 4294967296 ^ k * nth l k
  | [], k => by simp [valN, nth]
  | c :: l, 0 => by
    show c + 4294967296 * valN (l.take 0) = 0 + 1 * c
    simp [valN]
  | c :: l, k + 1 => by
    rw [List.take_succ_cons, List.take_succ_cons, valN_cons, valN_cons, valN_take_succ l k, Nat.mul_add, ← Nat.mul_assoc, ← Nat.pow_succ', Nat.add_assoc]
    rfl
theorem valN_take_all {l : List Nat} {k : Nat} (h : l.length ≤ k) : valN (l.take k) = valN l := by rw [List.take_of_length_le h]
theorem valN_ge {l : List Nat} (h : Canon 4294967296 l) (h0 : l ≠ []) : 4294967296 ^ (l.length - 1) ≤ valN l := by
  obtain ⟨k, hk⟩ : ∃ k, l.length = k + 1 := ⟨l.length - 1, by have := List.length_pos_iff.2 h0; omega⟩
  have e := valN_take_succ l k
  rw [← hk, valN_take_all (Nat.le_refl _)] at e
  have ht : nth l k ≠ 0 := by
    rcases h.top with h1 | h1
    · exact absurd h1 h0
    · rw [hk, Nat.add_sub_cancel] at h1; exact h1
  rw [hk, Nat.add_sub_cancel, e]
  have := Nat.mul_le_mul_left (4294967296 ^ k) (show 1 ≤ nth l k by omega)
  omega
theorem lim_length_le {n k : Nat} (h : n < 4294967296 ^ k) : (lim n).length ≤ k := by
  by_cases h0 : n = 0
  · subst h0; rw [lim_zero]; exact Nat.zero_le _
  · have h1 := valN_ge (lim_canon n) (lim_ne h0)
    rw [valN_lim] at h1
    have h2 : (lim n).length - 1 < k := (Nat.pow_lt_pow_iff_right (by omega)).1 (Nat.lt_of_le_of_lt h1 h)
    omega
end Alg
end
section
open Alg
namespace Alg
/-- -1, 0 or 1 -/
def cmpN (x y : Nat) : Int := if x < y then -1 else if y < x then 1 else 0
theorem cmpN_lt {x y : Nat} (h : x < y) : cmpN x y = -1 := if_pos h
theorem cmpN_gt {x y : Nat} (h : y < x) : cmpN x y = 1 := by unfold cmpN; rw [if_neg (by omega), if_pos h]
theorem cmpN_eq (x : Nat) : cmpN x x = 0 := by unfold cmpN; rw [if_neg (by omega), if_neg (by omega)]
theorem valN_split : ∀ (l : List Nat) (k : Nat), valN l = valN (l.take k) + 4294967296 ^ k * valN (l.drop k)
  | l, 0 => by simp [valN]
  | [], k + 1 => by simp [valN]
  | c :: l, k + 1 => by
    rw [List.take_succ_cons, List.drop_succ_cons, valN_cons, valN_cons, valN_split l k, Nat.mul_add, ← Nat.mul_assoc, ← Nat.pow_succ', Nat.add_assoc]
theorem valN_drop_succ (l : List Nat) (k : Nat) : valN (l.drop k) = nth l k + 4294967296 * valN (l.drop (k + 1)) := by
  rcases Nat.lt_or_ge k l.length with h | h
  · rw [List.drop_eq_getElem_cons h, valN_cons]
    congr 1
    unfold nth
    rw [List.getD_eq_getElem?_getD, List.getElem?_eq_getElem h]; rfl
  · rw [List.drop_eq_nil_of_le h, List.drop_eq_nil_of_le (by omega)]
    show 0 = nth l k + 0
    unfold nth
    rw [List.getD_eq_getElem?_getD, List.getElem?_eq_none h]; rfl
theorem valN_drop_all {l : List Nat} {k : Nat} (h : l.length ≤ k) : valN (l.drop k) = 0 := by rw [List.drop_eq_nil_of_le h]; rfl
theorem valN_drop_zero (l : List Nat) : valN (l.drop 0) = valN l := by rw [List.drop_zero]
theorem nth_take' (l : List Nat) (k i : Nat) (h : ∀ i, nth l i < 4294967296) : nth (l.take k) i < 4294967296 := by
  rw [nth_take]; split; exact h i; decide
theorem valN_take_lt {l : List Nat} (h : ∀ i, nth l i < 4294967296) (k : Nat) : valN (l.take k) < 4294967296 ^ k := by
  have h1 := valN_lt (l.take k) (fun i => nth_take' l k i h)
  refine Nat.lt_of_lt_of_le h1 (Nat.pow_le_pow_right (by omega) ?_)
  rw [List.length_take]; exact Nat.min_le_left _ _
/-- alike above k -/
theorem drop_alike {l m : List Nat} {n k : Nat} (hl : l.length = n) (hm : m.length = n) (h : ∀ j, k ≤ j → j < n → nth l j = nth m j) : valN (l.drop k) = valN (m.drop k) := by
  have : l.drop k = m.drop k := by
    apply List.ext_getElem
    · simp [hl, hm]
    · intro i h1 h2
      have h3 : k + i < n := by simp [hl] at h1; omega
      have := h (k + i) (by omega) h3
      unfold nth at this
      rw [List.getD_eq_getElem?_getD, List.getD_eq_getElem?_getD, List.getElem?_eq_getElem (by omega), List.getElem?_eq_getElem (by omega)] at this
      simpa using this
  rw [this]
theorem lt_at {l m : List Nat} {n k : Nat} (hl : l.length = n) (hm : m.length = n) (bl : ∀ i, nth l i < 4294967296) (h : ∀ j, k + 1 ≤ j → j < n → nth l j = nth m j) (hk : nth l k < nth m k) : valN l < valN m := by
  rw [valN_split l (k + 1), valN_split m (k + 1), drop_alike hl hm h, valN_take_succ, valN_take_succ]
  have h1 := valN_take_lt bl k
  have h2 := Nat.mul_le_mul_left (4294967296 ^ k) (Nat.succ_le_of_lt hk)
  rw [Nat.mul_succ] at h2
  omega
theorem lt_len {l m : List Nat} (hl : ∀ i, nth l i < 4294967296) (hm : Canon 4294967296 m) (h : l.length < m.length) : valN l < valN m := by
  have h1 := valN_lt l hl
  have h2 := valN_ge hm (fun e => by rw [e] at h; simp at h)
  exact Nat.lt_of_lt_of_le h1 (Nat.le_trans (Nat.pow_le_pow_right (by omega) (by omega)) h2)
theorem all_alike {l m : List Nat} {n : Nat} (hl : l.length = n) (hm : m.length = n) (h : ∀ j, 0 ≤ j → j < n → nth l j = nth m j) : valN l = valN m := by
  have := drop_alike hl hm (k := 0) h
  rwa [valN_drop_zero, valN_drop_zero] at this
theorem canon_nth {l : List Nat} (h : Canon 4294967296 l) (i : Nat) : nth l i < 4294967296 := h.getD i
/-- one limb laid -/
theorem set_take {l : List Nat} {k s : Nat} (hk : k < l.length) : valN ((l.set k s).take (k + 1)) = valN (l.take k) + 4294967296 ^ k * s := by
  rw [valN_take_succ, nth_set, if_pos ⟨rfl, hk⟩, List.take_set, List.set_eq_of_length_le (by rw [List.length_take]; omega)]
theorem set_drop {l : List Nat} {k s : Nat} (hk : k < l.length) : valN ((l.set k s).drop k) = s + 4294967296 * valN (l.drop (k + 1)) := by
  rw [valN_drop_succ, nth_set, if_pos ⟨rfl, hk⟩, List.drop_set_of_lt (by omega)]
/-- a sum on the way -/
def AddI (la lb out : List Nat) (k c : Nat) : Prop := valN (out.take k) + 4294967296 ^ k * c = valN (la.take k) + valN (lb.take k)
theorem AddI.start (la lb out : List Nat) : AddI la lb out 0 0 := by unfold AddI; simp [valN]
theorem AddI.step {la lb out : List Nat} {k c : Nat} (h : AddI la lb out k c) (hk : k < out.length) : AddI la lb (out.set k ((nth la k + nth lb k + c) % 4294967296)) (k + 1) ((nth la k + nth lb k + c) / 4294967296) := by
  unfold AddI at *
  rw [set_take hk, valN_take_succ la, valN_take_succ lb, Nat.pow_succ, Nat.mul_assoc, Nat.add_assoc, ← Nat.mul_add]
  have e : (nth la k + nth lb k + c) % 4294967296 + 4294967296 * ((nth la k + nth lb k + c) / 4294967296) = nth la k + nth lb k + c := Nat.mod_add_div _ _
  rw [e, Nat.mul_add, Nat.mul_add]
  omega
theorem AddI.done {la lb out : List Nat} {n c : Nat} (h : AddI la lb out n c) (hla : la.length ≤ n) (hlb : lb.length ≤ n) (ho : out.length = n + 1) : valN (out.set n c) = valN la + valN lb := by
  unfold AddI at h
  rw [valN_take_all hla, valN_take_all hlb] at h
  rw [← h, ← set_take (l := out) (k := n) (s := c) (by omega), valN_take_all (by rw [List.length_set]; omega)]
/-- a difference on the way -/
def SubI (la lb out : List Nat) (k c : Nat) : Prop := valN (out.take k) + valN (lb.take k) = valN (la.take k) + 4294967296 ^ k * c
theorem SubI.start (la lb out : List Nat) : SubI la lb out 0 0 := by unfold SubI; simp [valN]
theorem SubI.step {la lb out : List Nat} {k c D B : Nat} (h : SubI la lb out k c) (hk : k < out.length) (e : D + nth lb k + c = nth la k + 4294967296 * B) : SubI la lb (out.set k D) (k + 1) B := by
  unfold SubI at *
  have e2 : 4294967296 ^ k * D + 4294967296 ^ k * nth lb k + 4294967296 ^ k * c = 4294967296 ^ k * nth la k + 4294967296 ^ k * (4294967296 * B) := by
    rw [← Nat.mul_add, ← Nat.mul_add, ← Nat.mul_add, e]
  rw [set_take hk, valN_take_succ la, valN_take_succ lb, Nat.pow_succ, Nat.mul_assoc]
  omega
theorem SubI.done {la lb out : List Nat} {n c : Nat} (h : SubI la lb out n c) (hla : la.length ≤ n) (hlb : lb.length ≤ n) (ho : out.length = n) (hb : ∀ i, nth out i < 4294967296) (hle : valN lb ≤ valN la) : valN out = valN la - valN lb := by
  unfold SubI at h
  rw [valN_take_all hla, valN_take_all hlb, valN_take_all (by omega)] at h
  have h1 := valN_lt out hb
  rw [ho] at h1
  have hc : c = 0 := by
    rcases Nat.eq_zero_or_pos c with h2 | h2
    · exact h2
    · have := Nat.mul_le_mul_left (4294967296 ^ n) h2
      omega
  subst hc
  omega
theorem sub_limb {x y c D B : Nat} (hx : x < 4294967296) (hy : y < 4294967296) (hc : c ≤ 1) (hD : D = (x + 4294967296 - y - c) % 4294967296) (hB : B = if x < y + c then 1 else 0) : D + y + c = x + 4294967296 * B ∧ D < 4294967296 ∧ B ≤ 1 := by
  by_cases h : x < y + c
  · rw [if_pos h] at hB; omega
  · rw [if_neg h] at hB; omega
/-- a quotient by one limb, on the way down -/
def DivI (la out : List Nat) (d k r : Nat) : Prop := valN (la.drop k) = valN (out.drop k) * d + r ∧ r < d
theorem DivI.start {la out : List Nat} {d n : Nat} (hd : 0 < d) (hla : la.length ≤ n) (ho : out.length ≤ n) : DivI la out d n 0 := ⟨by rw [valN_drop_all hla, valN_drop_all ho]; simp, hd⟩
theorem DivI.step {la out : List Nat} {d k r : Nat} (h : DivI la out d (k + 1) r) (hk : k < out.length) : DivI la (out.set k ((r * 4294967296 + nth la k) / d)) d k ((r * 4294967296 + nth la k) % d) := by
  obtain ⟨h1, h2⟩ := h
  refine ⟨?_, Nat.mod_lt _ (by omega)⟩
  rw [set_drop hk, valN_drop_succ la, h1]
  have e := Nat.div_add_mod (r * 4294967296 + nth la k) d
  rw [Nat.add_mul, Nat.mul_comm ((r * 4294967296 + nth la k) / d) d, Nat.mul_add, Nat.mul_assoc]
  omega
theorem DivI.done {la out : List Nat} {d r : Nat} (h : DivI la out d 0 r) : valN out = valN la / d ∧ r = valN la % d := by
  obtain ⟨h1, h2⟩ := h
  rw [valN_drop_zero, valN_drop_zero] at h1
  have hd : 0 < d := by omega
  constructor
  · rw [h1, Nat.mul_comm, Nat.mul_add_div hd, Nat.div_eq_of_lt h2, Nat.add_zero]
  · rw [h1, Nat.mul_comm, Nat.mul_add_mod, Nat.mod_eq_of_lt h2]
end Alg
end
