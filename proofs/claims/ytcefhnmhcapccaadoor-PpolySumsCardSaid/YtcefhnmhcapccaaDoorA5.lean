import Derived.Test.YtcefhnmhcapccaaDoorA4
namespace Alg

/-! ### lists of coefficients, the lowest first -/

/-- without noughts at the end -/
def trim : List Nat → List Nat
  | [] => []
  | a :: l => if trim l = [] ∧ a = 0 then [] else a :: trim l

theorem trim_getD : ∀ (l : List Nat) (i : Nat), (trim l).getD i 0 = l.getD i 0
  | [], _ => rfl
  | a :: l, i => by
    unfold trim
    have ih := trim_getD l
    by_cases h : trim l = [] ∧ a = 0
    · rw [if_pos h]
      cases i with
      | zero => simp [h.2]
      | succ i =>
        have := ih i
        rw [h.1] at this
        simpa using this
    · rw [if_neg h]
      cases i with
      | zero => rfl
      | succ i => simpa using ih i

def Top (l : List Nat) : Prop := l = [] ∨ l.getD (l.length - 1) 0 ≠ 0
theorem trim_top : ∀ l, Top (trim l)
  | [] => Or.inl rfl
  | a :: l => by
    unfold trim
    by_cases h : trim l = [] ∧ a = 0
    · rw [if_pos h]; exact Or.inl rfl
    · rw [if_neg h]; right
      rcases trim_top l with h1 | h1
      · rw [h1]; simp only [List.length_cons, List.length_nil]
        show a ≠ 0
        exact fun e => h ⟨h1, e⟩
      · cases ht : trim l with
        | nil => rw [ht] at h1; exact absurd rfl h1
        | cons b t => rw [ht] at h1; simpa using h1
theorem trim_len : ∀ l, (trim l).length ≤ l.length
  | [] => Nat.le_refl _
  | a :: l => by
    unfold trim; split
    · exact Nat.zero_le _
    · simpa using trim_len l
theorem mem_trim : ∀ (l : List Nat) (c : Nat), c ∈ trim l → c ∈ l
  | [], c, h => h
  | a :: l, c, h => by
    unfold trim at h
    split at h
    · exact absurd h (List.not_mem_nil)
    · rcases List.mem_cons.1 h with h | h
      · exact h ▸ List.mem_cons_self
      · exact List.mem_cons_of_mem _ (mem_trim l c h)
theorem trim_of_top {l : List Nat} (h : Top l) : trim l = l := by
  induction l with
  | nil => rfl
  | cons a l ih =>
    have hl : Top l := by
      rcases h with h | h
      · exact absurd h (by simp)
      · cases l with
        | nil => exact Or.inl rfl
        | cons b t => right; simpa using h
    have e := ih hl
    unfold trim
    rw [e, if_neg]
    rintro ⟨h1, h2⟩
    rcases h with h | h
    · exact absurd h (by simp)
    · rw [h1, h2] at h; exact h rfl
/-- cut down by one nought -/
theorem trim_snoc_zero (l : List Nat) : trim (l ++ [0]) = trim l := by
  induction l with
  | nil => rfl
  | cons a l ih => show (if trim (l ++ [0]) = [] ∧ a = 0 then [] else a :: trim (l ++ [0])) = _; rw [ih]; rfl
theorem top_snoc {l : List Nat} {a : Nat} (h : a ≠ 0) : Top (l ++ [a]) := by
  right; rw [List.length_append, List.length_singleton, Nat.add_sub_cancel]
  rw [List.getD_eq_getElem?_getD, List.getElem?_append_right (Nat.le_refl _), Nat.sub_self]; exact h

/-- coefficients of a polynomial modulo p -/
structure Canon (p : Nat) (l : List Nat) : Prop where
  lt : ∀ c, c ∈ l → c < p
  top : Top l

section
variable {p : Nat} [NeZero p]
def pol (p : Nat) [NeZero p] (l : List Nat) : Poly (Fp p) :=
  ⟨⟨fun i => Fp.of (l.getD i 0)⟩, l.length, fun i hi => by
    show Fp.of (l.getD i 0) = 0
    rw [List.getD_eq_getElem?_getD, List.getElem?_eq_none hi]; rfl⟩
theorem pol_c (l : List Nat) (i : Nat) : (pol p l).c i = Fp.of (l.getD i 0) := rfl
theorem pol_bd (l : List Nat) : (pol p l).bd l.length := fun i hi => by
  show Fp.of (l.getD i 0) = 0
  rw [List.getD_eq_getElem?_getD, List.getElem?_eq_none hi]; rfl
theorem pol_trim (l : List Nat) : pol p (trim l) = pol p l := Poly.ext fun i => by rw [pol_c, pol_c, trim_getD]
theorem getD_lt {l : List Nat} (h : ∀ c, c ∈ l → c < p) (i : Nat) : l.getD i 0 < p := by
  by_cases hi : i < l.length
  · rw [List.getD_eq_getElem?_getD, List.getElem?_eq_getElem hi]; exact h _ (List.getElem_mem hi)
  · rw [List.getD_eq_getElem?_getD, List.getElem?_eq_none (by omega)]; exact Nat.pos_of_ne_zero (NeZero.ne p)
theorem Canon.getD {l : List Nat} (h : Canon p l) (i : Nat) : l.getD i 0 < p := getD_lt h.lt i
theorem Canon.v {l : List Nat} (h : Canon p l) (i : Nat) : ((pol p l).c i).v = l.getD i 0 := Nat.mod_eq_of_lt (h.getD i)
theorem pol_len {l : List Nat} (h : Canon p l) : (pol p l).len = l.length := by
  apply Poly.len_eq (pol_bd l)
  rcases h.top with h1 | h1
  · exact Or.inl (by rw [h1]; rfl)
  · right; intro e
    have := congrArg Fp.v e
    rw [h.v, Fp.v_zero] at this
    exact h1 this
theorem canon_ext {l m : List Nat} (hl : Canon p l) (hm : Canon p m) (h : pol p l = pol p m) : l = m := by
  have hlen : l.length = m.length := by rw [← pol_len hl, ← pol_len hm, h]
  apply List.ext_getElem hlen
  intro i h1 h2
  have := congrArg (fun f => (Poly.c f i).v) h
  simp only [hl.v, hm.v] at this
  rwa [List.getD_eq_getElem?_getD, List.getD_eq_getElem?_getD, List.getElem?_eq_getElem h1, List.getElem?_eq_getElem h2] at this
omit [NeZero p] in
theorem Canon.trim {l : List Nat} (h : ∀ c, c ∈ l → c < p) : Canon p (trim l) := ⟨fun c hc => h c (mem_trim l c hc), trim_top l⟩
omit [NeZero p] in
theorem canon_nil : Canon p [] := ⟨fun _ h => absurd h (List.not_mem_nil), Or.inl rfl⟩
theorem pol_nil : pol p [] = 0 := Poly.ext fun _ => rfl
theorem pol_eq_zero {l : List Nat} (h : Canon p l) : pol p l = 0 ↔ l = [] := by
  constructor
  · intro e; exact canon_ext h canon_nil (by rw [e, pol_nil])
  · rintro rfl; exact pol_nil
theorem pol_ne {l : List Nat} (h : Canon p l) (hl : l ≠ []) : pol p l ≠ 0 := fun e => hl ((pol_eq_zero h).1 e)
theorem pol_lead {l : List Nat} (h : Canon p l) : (pol p l).lead = Fp.of (l.getD (l.length - 1) 0) := by rw [Poly.lead, pol_len h, pol_c]
theorem pol_ofFn (n : Nat) (F : Nat → Nat) (i : Nat) : (pol p ((List.range n).map F)).c i = if i < n then Fp.of (F i) else 0 := by
  rw [pol_c, List.getD_eq_getElem?_getD]
  by_cases h : i < n
  · rw [if_pos h]; simp [h]
  · rw [if_neg h]; simp [h]; rfl
theorem pol_one (h1 : 1 < p) : pol p [1] = 1 ∧ Canon p [1] := by
  constructor
  · exact Poly.ext fun i => by
      rw [pol_c, Poly.c_one]; cases i with
      | zero => rfl
      | succ i => rw [if_neg (by omega)]; rfl
  · refine ⟨fun c hc => ?_, Or.inr (by simp)⟩
    rcases List.mem_cons.1 hc with h | h
    · omega
    · exact absurd h (List.not_mem_nil)
/-- every polynomial has its list -/
theorem pol_ex (f : Poly (Fp p)) : ∃ l, Canon p l ∧ pol p l = f := by
  refine ⟨Alg.trim ((List.range f.len).map fun i => (f.c i).v), Canon.trim ?_, ?_⟩
  · intro c hc
    obtain ⟨i, _, rfl⟩ := List.mem_map.1 hc
    exact (f.c i).h
  · rw [pol_trim]
    refine Poly.ext fun i => ?_
    rw [pol_ofFn]
    by_cases h : i < f.len
    · rw [if_pos h, Fp.of_v]
    · rw [if_neg h]; exact (f.len_bd i (by omega)).symm
end
end Alg
