/- A law for a region that draws its order: loads that are held by one condition on the world, calls that make memory, and a tail of operations in one forced order (stores, mostly) behind which the condition need not hold. A law for a region that draws its order: loads that are held by a condition on the world till a first store (number k) has come up, others that are held by a weaker one throughout; calls that make memory. The same law inside a fence (Derived/OrdersIn.lean), in a round of a loop over a function as well, where no operation is a defer statement. The law for drawn regions: an operation whose guard says no is passed over. A law for a drawn region in which new variables' boxes are laid at any time, beside calls that make memory: the walk goes in one order, the boxes are handed over behind the calls; a tail of stores in one forced order. Drawn regions: edges added. An operation that takes a component of a tuple yields in whatever world; it may be taken to be done ahead of another one. The law of the boxes (H5) at such a region. -/
import Derived.Test.YtbnjmeeaaieicaaDoorW0
import Derived.StillTail
import Derived.OrdersIn
section
section
open Go
namespace Alg
section
variable {P : Program} {ops : Array Oper} {Q : Exit → Act → World → Prop} {md : Region.Mode} {S : World → Prop}
def wpAnyT (P : Program) (md : Region.Mode) (ops : Array Oper) (Q : Exit → Act → World → Prop) (S : World → Prop) (n : Nat) (L : Array Bool → Act → World → Prop) : Nat → Array Bool → Act → World → Prop
  | 0, listed, a, w => L listed a w
  | f + 1, listed, a, w =>
    Region.ready md ops listed ≠ [] ∧ ∀ i ∈ Region.ready md ops listed, i < n ∧ wpOp P ops Q i (fun a' w' => S w' ∧ wpAnyT P md ops Q S n L f (listed.setIfInBounds i true) a' w') a w
theorem wpAny_of_T {n g : Nat} {L : Array Bool → Act → World → Prop} (hL : ∀ listed a w, L listed a w → wpAny P md ops Q g listed a w) :
    ∀ (f : Nat) (listed : Array Bool) (a : Act) (w : World), wpAnyT P md ops Q S n L f listed a w → wpAny P md ops Q (f + g) listed a w
  | 0, listed, a, w, h => by rw [Nat.zero_add]; exact hL _ _ _ h
  | f + 1, listed, a, w, h => by
    rw [show f + 1 + g = (f + g) + 1 by omega]
    exact ⟨fun h0 => absurd h0 h.1, fun i hi => wpOp_mono (fun a' w' h' => wpAny_of_T hL f _ a' w' h'.2) (h.2 i hi).2⟩
theorem wpAnyT_first {n i : Nat} {oi : Oper} {v : Value} {L : Array Bool → Act → World → Prop} (hi : ops[i]? = some oi) (hsel : ∀ (j : Nat) (o : Oper) cs b, ops[j]? = some o → o.op ≠ .select cs b)
    (hQ : ∀ c a w, Q (.panic c) (a.put oi.dst v) w → Q (.panic c) a w)
    (hs : Region.sinkB md ops n = true) (hc : Region.chainB md ops n = true) (hn : n < ops.size) (hin : i < n)
    (hdone : ∀ listed a w, L listed a w → ∀ j ∈ Region.ready md ops listed, n ≤ j) :
    ∀ (f : Nat) (listed : Array Bool) (a : Act) (w : World), HeadInv md ops n listed →
      (∀ j oj, ops[j]? = some oj → j ≠ i → listed.getD j true = false → (∀ e ∈ oj.after, Region.binds md e = true → e.on ≠ i) → oi.apart ops oj = true) →
      i ∈ Region.ready md ops listed → YieldsIf P ops S oi v a → S w →
      wpAnyT P md ops Q S n L f (listed.setIfInBounds i true) (a.put oi.dst v) w → wpAnyT P md ops Q S n L (f + 1) listed a w := by
  intro f
  induction f with
  | zero =>
    intro listed a w inv _ hr hy hS H
    have hun := (mem_ready.1 hr).1
    refine ⟨fun h => (by rw [h] at hr; cases hr), fun j hj => ?_⟩
    have hjn : j < n := by
      rcases Nat.lt_or_ge j n with h | h
      · exact h
      · exact absurd hj (tail_waits hs hc hn inv _ i rfl hin hun j h)
    refine ⟨hjn, ?_⟩
    by_cases hji : j = i
    · subst hji; exact hy.wpOp hi hS ⟨hS, H⟩
    · have := hdone _ _ _ H j (ready_mono hj hji)
      omega
  | succ f ih =>
    intro listed a w inv hfree hr hy hS H
    have hun := (mem_ready.1 hr).1
    refine ⟨fun h => (by rw [h] at hr; cases hr), fun j hj => ?_⟩
    have hjn : j < n := by
      rcases Nat.lt_or_ge j n with h | h
      · exact h
      · exact absurd hj (tail_waits hs hc hn inv _ i rfl hin hun j h)
    refine ⟨hjn, ?_⟩
    by_cases hji : j = i
    · subst hji; exact hy.wpOp hi hS ⟨hS, H⟩
    · have h1 := (H.2 j (ready_mono hj hji)).2
      obtain ⟨hjun, oj, hoj, hall⟩ := mem_ready.1 hj
      have hnot : ∀ e ∈ oj.after, Region.binds md e = true → e.on ≠ i := fun e he hb heq => by
        have h1 := hall e he hb
        rw [heq, getD_both hun] at h1
        cases h1
      have h2 := wpOp_putIf hoj (hfree j oj hoj hji hjun hnot) (fun cs b => hsel i oi cs b hi) (fun cs b => hsel j oj cs b hoj) hQ hy h1
      have hfree' : ∀ k ok, ops[k]? = some ok → k ≠ i → (listed.setIfInBounds j true).getD k true = false →
          (∀ e ∈ ok.after, Region.binds md e = true → e.on ≠ i) → oi.apart ops ok = true := fun k ok hk hki hun hno => by
        refine hfree k ok hk hki ?_ hno
        by_cases hjk : j = k
        · subst hjk; exact hjun
        · rw [getD_set_ne true hjk] at hun; exact hun
      refine wpOp_mono (fun a' w' h3 => ⟨h3.2.1, ih (listed.setIfInBounds j true) a' w' (inv.set hj hjn) hfree' (ready_mono hr (Ne.symm hji)) h3.1 h3.2.1 ?_⟩) h2
      rw [Array.setIfInBounds_comm _ _ hji]
      exact h3.2.2
/-- one operation behind the other, in the order chosen: quiet ones (true) yield under S; behind each loud one S is shown anew -/
def wpHeld (P : Program) (ops : Array Oper) (Q : Exit → Act → World → Prop) (S : World → Prop) (L : Act → World → Prop) : List (Bool × Oper) → Act → World → Prop
  | [], a, w => L a w
  | (true, o) :: l, a, w => ∃ v, YieldsIf P ops S o v a ∧ wpHeld P ops Q S L l (a.put o.dst v) w
  | (false, o) :: l, a, w => ∀ K : Act → World → Prop, Shut (∀ a w, S w → (S w → wpHeld P ops Q S L l a w) → K a w) → if Region.wanted o (yielded ops a.tmps) = true then Oper.wp P o a w K Q else K (a.put o.dst undef) w
def pick (l : List Oper) : List (Bool × Nat) → List (Bool × Oper)
  | [] => []
  | (b, i) :: r => match l[i]? with
    | some o => (b, o) :: pick l r
    | none => pick l r
/-- the order chosen serves: a quiet one may come up and is apart from the others; a loud one is all that may come up; then the tail, one behind the other -/
def heldHead (md : Region.Mode) (ops : Array Oper) (n g : Nat) : List (Bool × Nat) → Array Bool → Bool
  | [], listed => Region.seqB md ops g n listed
  | (true, i) :: r, listed => decide (i < n) && (Region.ready md ops listed).contains i && Region.free md ops listed i && heldHead md ops n g r (listed.setIfInBounds i true)
  | (false, i) :: r, listed => decide (i < n) && decide (Region.ready md ops listed = [i]) && heldHead md ops n g r (listed.setIfInBounds i true)
def heldB (md : Region.Mode) (ops : Array Oper) (n : Nat) (r : List (Bool × Nat)) : Bool :=
  Region.noSelect ops && decide (n < ops.size) && Region.sinkB md ops n && Region.chainB md ops n && decide (r.length = n) && heldHead md ops n (ops.size - n) r (Array.replicate ops.size false)
theorem wpAnyT_held {l : List Oper} {n g : Nat} {Lq : Act → World → Prop} (hQ : ∀ c a (d : Option Tmp) v w, Q (.panic c) (a.put d v) w → Q (.panic c) a w)
    (hsel : Region.noSelect l.toArray = true) (hs : Region.sinkB md l.toArray n = true) (hc : Region.chainB md l.toArray n = true) (hn : n < l.toArray.size) :
    ∀ (r : List (Bool × Nat)) (listed : Array Bool) (a : Act) (w : World), HeadInv md l.toArray n listed → heldHead md l.toArray n g r listed = true → S w →
    wpHeld P l.toArray Q S Lq (pick l r) a w → wpAnyT P md l.toArray Q S n (fun listed' a' w' => Region.seqB md l.toArray g n listed' = true ∧ Lq a' w') r.length listed a w
  | [], listed, a, w, _, hB, _, h => ⟨hB, h⟩
  | (true, i) :: r, listed, a, w, inv, hB, hS, h => by
    simp only [heldHead, Bool.and_eq_true, decide_eq_true_eq] at hB
    obtain ⟨⟨⟨hin, hr⟩, hf⟩, hB'⟩ := hB
    have hr' : i ∈ Region.ready md l.toArray listed := by simpa using hr
    obtain ⟨_, o, ho, _⟩ := mem_ready.1 hr'
    have ho' : l[i]? = some o := by simpa using ho
    unfold pick at h
    simp only [ho'] at h
    obtain ⟨v, hy, hK⟩ := h
    exact wpAnyT_first ho (Region.noSelect_spec hsel) (fun c a w => hQ c a _ _ w) hs hc hn hin (fun listed' a' w' hL => seqB_ready hL.1) r.length listed a w inv (Region.free_spec ho hf) hr' hy hS
      (wpAnyT_held hQ hsel hs hc hn r _ _ w (inv.set hr' hin) hB' hS hK)
  | (false, i) :: r, listed, a, w, inv, hB, hS, h => by
    simp only [heldHead, Bool.and_eq_true, decide_eq_true_eq] at hB
    obtain ⟨⟨hin, hr⟩, hB'⟩ := hB
    have hr' : i ∈ Region.ready md l.toArray listed := by rw [hr]; simp
    obtain ⟨_, o, ho, _⟩ := mem_ready.1 hr'
    have ho' : l[i]? = some o := by simpa using ho
    unfold pick at h
    simp only [ho'] at h
    refine ⟨fun h0 => (by rw [hr] at h0; cases h0), fun j hj => ?_⟩
    rw [hr] at hj
    obtain rfl : j = i := by simpa using hj
    refine ⟨hin, wpOp_step ho (fun K' hK => h K' (fun a w hS2 hW => hK a w ⟨hS2, ?_⟩))⟩
    exact wpAnyT_held hQ hsel hs hc hn r _ _ w (inv.set hr' hin) hB' hS2 (hW hS2)
/-- the region: the head in the order chosen, then the tail -/
theorem wp_region_held_tail {id : Nat} {a : Act} {w : World} {l : List Oper} (n : Nat) (r : List (Bool × Nat)) (S : World → Prop) (hm : P.follows .mixedOrders = true) (hB : heldB .any l.toArray n r = true)
    (hQ : ∀ c a (d : Option Tmp) v w, Q (.panic c) (a.put d v) w → Q (.panic c) a w) (hS : S w.drew)
    (h : S w.drew → wpHeld P l.toArray Q S (fun a' w' => wpList P l.toArray Q (l.drop n) a' w') (pick l r) a w.drew) : (Code.region id l.toArray true).wp P Q a w := by
  simp only [heldB, Bool.and_eq_true, decide_eq_true_eq] at hB
  obtain ⟨⟨⟨⟨⟨hsel, hn⟩, hs⟩, hc⟩, hlen⟩, hlex⟩ := hB
  have hdl : (l.drop n).length = l.toArray.size - n := by simp
  have inv0 : HeadInv .any l.toArray n (Array.replicate l.toArray.size false) :=
    ⟨by simp, fun j oj _ hl => (by rw [getD_replicate_false] at hl; cases hl), fun t _ ht => getD_in (by simpa using ht) (getD_replicate_false _ _)⟩
  have H := wpAnyT_held (md := .any) (g := l.toArray.size - n) hQ hsel hs hc hn r _ a w.drew inv0 hlex hS (h hS)
  refine wp_region_any hm ?_
  have := wpAny_of_T (g := l.toArray.size - n) (fun listed a' w' hL => by
    have := wpAny_of_seq (md := .any) (Q' := Q) (l.drop n) n listed a' w' (fun j => by simp [List.getElem?_drop]) (by rw [hdl]; exact hL.1) hL.2
    rwa [hdl] at this) _ _ _ _ H
  rw [hlen, show n + (l.toArray.size - n) = l.toArray.size by omega] at this
  exact this
theorem held_quiet {L : Act → World → Prop} {o : Oper} {l : List (Bool × Oper)} {a : Act} {w : World} {v : Value} (hw : Region.wanted o (yielded ops a.tmps) = true) (hy : ∀ w, S w → (execOp a.eval o).run P w = .ok (.value v) w)
    (h : wpHeld P ops Q S L l (a.put o.dst v) w) : wpHeld P ops Q S L ((true, o) :: l) a w := ⟨v, Or.inl ⟨hw, hy⟩, h⟩
theorem held_loud {L : Act → World → Prop} {o : Oper} {l : List (Bool × Oper)} {a : Act} {w : World}
    (h : ∀ K : Act → World → Prop, Shut (∀ a w, S w → (S w → wpHeld P ops Q S L l a w) → K a w) → if Region.wanted o (yielded ops a.tmps) = true then Oper.wp P o a w K Q else K (a.put o.dst undef) w) : wpHeld P ops Q S L ((false, o) :: l) a w := h
theorem held_nil {L : Act → World → Prop} {a : Act} {w : World} (h : L a w) : wpHeld P ops Q S L [] a w := h
end
end Alg
end
section
open Go
namespace Alg
section
variable {P : Program} {ops : Array Oper} {Q : Exit → Act → World → Prop} {md : Region.Mode} {S1 S2 : World → Prop}
structure CInv (md : Region.Mode) (ops : Array Oper) (listed : Array Bool) : Prop where
  size : listed.size = ops.size
  closed : ∀ j oj, ops[j]? = some oj → listed.getD j false = true → ∀ e ∈ oj.after, Region.binds md e = true → listed.getD e.on false = true
theorem CInv.set {i : Nat} {listed : Array Bool} (inv : CInv md ops listed) (hi : i ∈ Region.ready md ops listed) : CInv md ops (listed.setIfInBounds i true) := by
  obtain ⟨_, oi, hoi, hall⟩ := mem_ready.1 hi
  refine ⟨by simp [inv.size], fun j oj hj hl e he hb => ?_⟩
  by_cases hij : i = j
  · subst hij
    have : oj = oi := Option.some.inj (hj.symm.trans hoi)
    subst this
    exact getD_set_true (hall e he hb)
  · rw [getD_set_ne false hij] at hl
    exact getD_set_true (inv.closed j oj hj hl e he hb)
theorem CInv.start : CInv md ops (Array.replicate ops.size false) := ⟨by simp, fun j oj _ hl => by rw [getD_replicate_false] at hl; cases hl⟩
inductive Anc (md : Region.Mode) (ops : Array Oper) (k : Nat) : Nat → Prop
  | self : Anc md ops k k
  | step {j i : Nat} : Anc md ops k j → Region.waitsFor md ops j i = true → Anc md ops k i
theorem Anc.listed {k i : Nat} {listed : Array Bool} (inv : CInv md ops listed) (h : Anc md ops k i) (hk : listed.getD k false = true) : listed.getD i false = true := by
  induction h with
  | self => exact hk
  | step _ hw ih =>
    obtain ⟨oj, hoj, e, he, hb, hon⟩ := Region.waitsFor_spec hw
    rw [← hon]
    exact inv.closed _ oj hoj ih e he hb
def preds (md : Region.Mode) (ops : Array Oper) (j : Nat) : List Nat := (List.range ops.size).filter fun i => Region.waitsFor md ops j i
def ancs (md : Region.Mode) (ops : Array Oper) (k : Nat) : List Nat := (List.range (k + 1)).reverse.foldl (fun s t => if s.contains t then s ++ preds md ops t else s) [k]
theorem foldl_anc (k : Nat) : ∀ (l s : List Nat), (∀ i, i ∈ s → Anc md ops k i) → ∀ i, i ∈ l.foldl (fun s t => if s.contains t then s ++ preds md ops t else s) s → Anc md ops k i
  | [], _, h, i, hi => h i hi
  | t :: l, s, h, i, hi => by
    simp only [List.foldl_cons] at hi
    refine foldl_anc k l _ ?_ i hi
    intro j hj
    split at hj
    · rename_i ht
      rcases List.mem_append.1 hj with h1 | h1
      · exact h j h1
      · simp only [preds, List.mem_filter] at h1
        exact .step (h t (by simpa using ht)) h1.2
    · exact h j hj
theorem ancs_spec {k i : Nat} (h : (ancs md ops k).contains i = true) : Anc md ops k i :=
  foldl_anc k _ [k] (fun j hj => by rw [List.mem_singleton.1 hj]; exact .self) i (List.contains_iff_mem.1 h)
/-- what holds: till k has come up S1, then S2 -/
def SK (S1 S2 : World → Prop) (b : Bool) (w : World) : Prop := if b = true then S2 w else S1 w
def wpAnyK (P : Program) (md : Region.Mode) (ops : Array Oper) (Q : Exit → Act → World → Prop) (S1 S2 : World → Prop) (k : Nat) : Nat → Array Bool → Act → World → Prop
  | 0, listed, a, w => Region.ready md ops listed = [] ∧ Q .normal a w
  | f + 1, listed, a, w =>
    (Region.ready md ops listed = [] → Q .normal a w) ∧
    ∀ i ∈ Region.ready md ops listed, wpOp P ops Q i (fun a' w' => SK S1 S2 ((listed.setIfInBounds i true).getD k false) w' ∧ wpAnyK P md ops Q S1 S2 k f (listed.setIfInBounds i true) a' w') a w
theorem wpAny_of_K {k : Nat} : ∀ (f : Nat) (listed : Array Bool) (a : Act) (w : World), wpAnyK P md ops Q S1 S2 k f listed a w → wpAny P md ops Q f listed a w
  | 0, _, _, _, h => h
  | f + 1, _, _, _, h => ⟨h.1, fun i hi => wpOp_mono (fun a' w' h' => wpAny_of_K f _ a' w' h'.2) (h.2 i hi)⟩
theorem wpAnyK_first {k i : Nat} {oi : Oper} {v : Value} {T : World → Prop} (hi : ops[i]? = some oi) (hsel : ∀ (j : Nat) (o : Oper) cs b, ops[j]? = some o → o.op ≠ .select cs b)
    (hQ : ∀ c a w, Q (.panic c) (a.put oi.dst v) w → Q (.panic c) a w) (hki : i ≠ k)
    (hT : ∀ listed w, CInv md ops listed → listed.getD i true = false → SK S1 S2 (listed.getD k false) w → T w) :
    ∀ (f : Nat) (listed : Array Bool) (a : Act) (w : World), CInv md ops listed →
      (∀ j oj, ops[j]? = some oj → j ≠ i → listed.getD j true = false → (∀ e ∈ oj.after, Region.binds md e = true → e.on ≠ i) → oi.apart ops oj = true) →
      i ∈ Region.ready md ops listed → YieldsIf P ops T oi v a → SK S1 S2 (listed.getD k false) w →
      wpAnyK P md ops Q S1 S2 k f (listed.setIfInBounds i true) (a.put oi.dst v) w → wpAnyK P md ops Q S1 S2 k (f + 1) listed a w := by
  have hsame : ∀ (listed : Array Bool), (listed.setIfInBounds i true).getD k false = listed.getD k false := fun listed => getD_set_ne false hki
  intro f
  induction f with
  | zero =>
    intro listed a w inv _ hr hy hS H
    have hun := (mem_ready.1 hr).1
    refine ⟨fun h => (by rw [h] at hr; cases hr), fun j hj => ?_⟩
    by_cases hji : j = i
    · subst hji; exact hy.wpOp hi (hT listed w inv hun hS) ⟨by rw [hsame]; exact hS, H⟩
    · have := ready_mono hj hji
      rw [H.1] at this
      cases this
  | succ f ih =>
    intro listed a w inv hfree hr hy hS H
    have hun := (mem_ready.1 hr).1
    refine ⟨fun h => (by rw [h] at hr; cases hr), fun j hj => ?_⟩
    by_cases hji : j = i
    · subst hji; exact hy.wpOp hi (hT listed w inv hun hS) ⟨by rw [hsame]; exact hS, H⟩
    · have h1 := H.2 j (ready_mono hj hji)
      obtain ⟨hjun, oj, hoj, hall⟩ := mem_ready.1 hj
      have hnot : ∀ e ∈ oj.after, Region.binds md e = true → e.on ≠ i := fun e he hb heq => by
        have h1 := hall e he hb
        rw [heq, getD_both hun] at h1
        cases h1
      have h2 := wpOp_putIf hoj (hfree j oj hoj hji hjun hnot) (fun cs b => hsel i oi cs b hi) (fun cs b => hsel j oj cs b hoj) hQ hy h1
      have hfree' : ∀ k ok, ops[k]? = some ok → k ≠ i → (listed.setIfInBounds j true).getD k true = false →
          (∀ e ∈ ok.after, Region.binds md e = true → e.on ≠ i) → oi.apart ops ok = true := fun k ok hk hki hun hno => by
        refine hfree k ok hk hki ?_ hno
        by_cases hjk : j = k
        · subst hjk; exact hjun
        · rw [getD_set_ne true hjk] at hun; exact hun
      refine wpOp_mono (fun a' w' h3 => ?_) h2
      have h4 := h3.2.1
      rw [Array.setIfInBounds_comm _ _ (Ne.symm hji), hsame] at h4
      refine ⟨h4, ih (listed.setIfInBounds j true) a' w' (inv.set hj) hfree' (ready_mono hr (Ne.symm hji)) h3.1 h4 ?_⟩
      rw [Array.setIfInBounds_comm _ _ hji]
      exact h3.2.2
/-- one operation behind the other: 0: loud; 1: quiet, and k waits for it; 2: quiet; 3: k itself -/
def wpHeld2 (P : Program) (ops : Array Oper) (Q : Exit → Act → World → Prop) (S1 S2 : World → Prop) : Bool → List (Nat × Oper) → Act → World → Prop
  | _, [], a, w => Q .normal a w
  | b, (1, o) :: l, a, w => ∃ v, YieldsIf P ops S1 o v a ∧ wpHeld2 P ops Q S1 S2 b l (a.put o.dst v) w
  | b, (2, o) :: l, a, w => ∃ v, YieldsIf P ops S2 o v a ∧ wpHeld2 P ops Q S1 S2 b l (a.put o.dst v) w
  | _, (3, o) :: l, a, w => ∀ K : Act → World → Prop, Shut (∀ a w, S2 w → (S2 w → wpHeld2 P ops Q S1 S2 true l a w) → K a w) → if Region.wanted o (yielded ops a.tmps) = true then Oper.wp P o a w K Q else K (a.put o.dst undef) w
  | b, (_, o) :: l, a, w => ∀ K : Act → World → Prop, Shut (∀ a w, SK S1 S2 b w → (SK S1 S2 b w → wpHeld2 P ops Q S1 S2 b l a w) → K a w) → if Region.wanted o (yielded ops a.tmps) = true then Oper.wp P o a w K Q else K (a.put o.dst undef) w
def pick2 (l : List Oper) : List (Nat × Nat) → List (Nat × Oper)
  | [] => []
  | (b, i) :: r => match l[i]? with
    | some o => (b, o) :: pick2 l r
    | none => pick2 l r
def heldHead2 (md : Region.Mode) (ops : Array Oper) (k : Nat) : List (Nat × Nat) → Array Bool → Bool
  | [], listed => (Region.ready md ops listed).isEmpty
  | (0, i) :: r, listed => decide (i ≠ k) && decide (Region.ready md ops listed = [i]) && heldHead2 md ops k r (listed.setIfInBounds i true)
  | (1, i) :: r, listed => decide (i ≠ k) && (ancs md ops k).contains i && (Region.ready md ops listed).contains i && Region.free md ops listed i && heldHead2 md ops k r (listed.setIfInBounds i true)
  | (2, i) :: r, listed => decide (i ≠ k) && (Region.ready md ops listed).contains i && Region.free md ops listed i && heldHead2 md ops k r (listed.setIfInBounds i true)
  | (3, i) :: r, listed => decide (i = k) && decide (Region.ready md ops listed = [i]) && heldHead2 md ops k r (listed.setIfInBounds i true)
  | _ :: _, _ => false
def held2B (md : Region.Mode) (ops : Array Oper) (k : Nat) (r : List (Nat × Nat)) : Bool :=
  Region.noSelect ops && decide (k < ops.size) && decide (r.length = ops.size) && heldHead2 md ops k r (Array.replicate ops.size false)
theorem getD_bool {listed : Array Bool} {k : Nat} (hk : k < listed.size) {b : Bool} : listed.getD k true = b ↔ listed.getD k false = b := by simp [hk]
theorem wpAnyK_held {l : List Oper} {k : Nat} (hQ : ∀ c a (d : Option Tmp) v w, Q (.panic c) (a.put d v) w → Q (.panic c) a w) (h12 : ∀ w, S1 w → S2 w)
    (hsel : Region.noSelect l.toArray = true) (hk : k < l.toArray.size) :
    ∀ (r : List (Nat × Nat)) (listed : Array Bool) (b : Bool) (a : Act) (w : World), CInv md l.toArray listed → listed.getD k false = b → heldHead2 md l.toArray k r listed = true → SK S1 S2 b w →
    wpHeld2 P l.toArray Q S1 S2 b (pick2 l r) a w → wpAnyK P md l.toArray Q S1 S2 k r.length listed a w
  | [], listed, b, a, w, _, _, hB, _, h => ⟨by simpa [heldHead2] using hB, h⟩
  | (0, i) :: r, listed, b, a, w, inv, hb, hB, hS, h => by
    simp only [heldHead2, Bool.and_eq_true, decide_eq_true_eq] at hB
    obtain ⟨⟨hik, hr⟩, hB'⟩ := hB
    have hr' : i ∈ Region.ready md l.toArray listed := by rw [hr]; simp
    obtain ⟨_, o, ho, _⟩ := mem_ready.1 hr'
    have ho' : l[i]? = some o := by simpa using ho
    unfold pick2 at h
    simp only [ho'] at h
    refine ⟨fun h0 => (by rw [hr] at h0; cases h0), fun j hj => ?_⟩
    rw [hr] at hj
    obtain rfl : j = i := by simpa using hj
    have e : (listed.setIfInBounds j true).getD k false = b := by rw [getD_set_ne false hik]; exact hb
    refine wpOp_step ho (fun K' hK => h K' (fun a w hS2 hW => hK a w ⟨by rw [e]; exact hS2, ?_⟩))
    exact wpAnyK_held hQ h12 hsel hk r _ b _ w (inv.set hr') e hB' hS2 (hW hS2)
  | (1, i) :: r, listed, b, a, w, inv, hb, hB, hS, h => by
    simp only [heldHead2, Bool.and_eq_true, decide_eq_true_eq] at hB
    obtain ⟨⟨⟨⟨hik, han⟩, hr⟩, hf⟩, hB'⟩ := hB
    have hr' : i ∈ Region.ready md l.toArray listed := by simpa using hr
    obtain ⟨_, o, ho, _⟩ := mem_ready.1 hr'
    have ho' : l[i]? = some o := by simpa using ho
    unfold pick2 at h
    simp only [ho'] at h
    obtain ⟨v, hy, hK⟩ := h
    have e : (listed.setIfInBounds i true).getD k false = b := by rw [getD_set_ne false hik]; exact hb
    refine wpAnyK_first ho (Region.noSelect_spec hsel) (fun c a w => hQ c a _ _ w) hik ?_ r.length listed a w inv (Region.free_spec ho hf) hr' hy (by rw [hb]; exact hS)
      (wpAnyK_held hQ h12 hsel hk r _ b _ w (inv.set hr') e hB' hS hK)
    intro listed' w' inv' hun hS'
    have hku : listed'.getD k false = false := by
      cases hc : listed'.getD k false with
      | false => rfl
      | true =>
        have h3 := (ancs_spec han).listed inv' hc
        rw [getD_both hun] at h3
        cases h3
    rw [hku] at hS'
    exact hS'
  | (2, i) :: r, listed, b, a, w, inv, hb, hB, hS, h => by
    simp only [heldHead2, Bool.and_eq_true, decide_eq_true_eq] at hB
    obtain ⟨⟨⟨hik, hr⟩, hf⟩, hB'⟩ := hB
    have hr' : i ∈ Region.ready md l.toArray listed := by simpa using hr
    obtain ⟨_, o, ho, _⟩ := mem_ready.1 hr'
    have ho' : l[i]? = some o := by simpa using ho
    unfold pick2 at h
    simp only [ho'] at h
    obtain ⟨v, hy, hK⟩ := h
    have e : (listed.setIfInBounds i true).getD k false = b := by rw [getD_set_ne false hik]; exact hb
    refine wpAnyK_first ho (Region.noSelect_spec hsel) (fun c a w => hQ c a _ _ w) hik ?_ r.length listed a w inv (Region.free_spec ho hf) hr' hy (by rw [hb]; exact hS)
      (wpAnyK_held hQ h12 hsel hk r _ b _ w (inv.set hr') e hB' hS hK)
    intro listed' w' _ _ hS'
    unfold SK at hS'
    split at hS'
    · exact hS'
    · exact h12 _ hS'
  | (3, i) :: r, listed, b, a, w, inv, _, hB, hS, h => by
    simp only [heldHead2, Bool.and_eq_true, decide_eq_true_eq] at hB
    obtain ⟨⟨hik, hr⟩, hB'⟩ := hB
    have hr' : i ∈ Region.ready md l.toArray listed := by rw [hr]; simp
    obtain ⟨_, o, ho, _⟩ := mem_ready.1 hr'
    have ho' : l[i]? = some o := by simpa using ho
    unfold pick2 at h
    simp only [ho'] at h
    refine ⟨fun h0 => (by rw [hr] at h0; cases h0), fun j hj => ?_⟩
    rw [hr] at hj
    obtain rfl : j = i := by simpa using hj
    have e : (listed.setIfInBounds j true).getD k false = true := by
      have : j < listed.size := by rw [inv.size, hik]; exact hk
      rw [← hik]; simp [this]
    refine wpOp_step ho (fun K' hK => h K' (fun a w hS2 hW => hK a w ⟨by rw [e]; exact hS2, ?_⟩))
    exact wpAnyK_held hQ h12 hsel hk r _ true _ w (inv.set hr') e hB' hS2 (hW hS2)
  | (_ + 4, i) :: r, listed, b, a, w, _, _, hB, _, _ => by simp [heldHead2] at hB
theorem wp_region_held2 {id : Nat} {a : Act} {w : World} {l : List Oper} (k : Nat) (r : List (Nat × Nat)) (S1 S2 : World → Prop) (hm : P.follows .mixedOrders = true) (hB : held2B .any l.toArray k r = true)
    (hQ : ∀ c a (d : Option Tmp) v w, Q (.panic c) (a.put d v) w → Q (.panic c) a w) (h12 : ∀ w, S1 w → S2 w) (hS : S1 w.drew)
    (h : S1 w.drew → wpHeld2 P l.toArray Q S1 S2 false (pick2 l r) a w.drew) : (Code.region id l.toArray true).wp P Q a w := by
  simp only [held2B, Bool.and_eq_true, decide_eq_true_eq] at hB
  obtain ⟨⟨⟨hsel, hk⟩, hlen⟩, hlex⟩ := hB
  have H := wpAnyK_held (md := .any) hQ h12 hsel hk r _ false a w.drew CInv.start (getD_replicate_false _ _) hlex hS (h hS)
  refine wp_region_any hm ?_
  rw [hlen] at H
  exact wpAny_of_K _ _ _ _ H
theorem held2_early {o : Oper} {l : List (Nat × Oper)} {a : Act} {w : World} {v : Value} {b : Bool} (hw : Region.wanted o (yielded ops a.tmps) = true) (hy : ∀ w, S1 w → (execOp a.eval o).run P w = .ok (.value v) w)
    (h : wpHeld2 P ops Q S1 S2 b l (a.put o.dst v) w) : wpHeld2 P ops Q S1 S2 b ((1, o) :: l) a w := ⟨v, Or.inl ⟨hw, hy⟩, h⟩
theorem held2_quiet {o : Oper} {l : List (Nat × Oper)} {a : Act} {w : World} {v : Value} {b : Bool} (hw : Region.wanted o (yielded ops a.tmps) = true) (hy : ∀ w, S2 w → (execOp a.eval o).run P w = .ok (.value v) w)
    (h : wpHeld2 P ops Q S1 S2 b l (a.put o.dst v) w) : wpHeld2 P ops Q S1 S2 b ((2, o) :: l) a w := ⟨v, Or.inl ⟨hw, hy⟩, h⟩
theorem held2_loud {o : Oper} {l : List (Nat × Oper)} {a : Act} {w : World}
    (h : ∀ K : Act → World → Prop, Shut (∀ a w, S1 w → (S1 w → wpHeld2 P ops Q S1 S2 false l a w) → K a w) → if Region.wanted o (yielded ops a.tmps) = true then Oper.wp P o a w K Q else K (a.put o.dst undef) w) :
    wpHeld2 P ops Q S1 S2 false ((0, o) :: l) a w := fun K hK => h K (fun a w h1 h2 => hK.out a w h1 h2)
theorem held2_loud' {o : Oper} {l : List (Nat × Oper)} {a : Act} {w : World}
    (h : ∀ K : Act → World → Prop, Shut (∀ a w, S2 w → (S2 w → wpHeld2 P ops Q S1 S2 true l a w) → K a w) → if Region.wanted o (yielded ops a.tmps) = true then Oper.wp P o a w K Q else K (a.put o.dst undef) w) :
    wpHeld2 P ops Q S1 S2 true ((0, o) :: l) a w := fun K hK => h K (fun a w h1 h2 => hK.out a w h1 h2)
theorem held2_store {o : Oper} {l : List (Nat × Oper)} {a : Act} {w : World} {b : Bool}
    (h : ∀ K : Act → World → Prop, Shut (∀ a w, S2 w → (S2 w → wpHeld2 P ops Q S1 S2 true l a w) → K a w) → if Region.wanted o (yielded ops a.tmps) = true then Oper.wp P o a w K Q else K (a.put o.dst undef) w) :
    wpHeld2 P ops Q S1 S2 b ((3, o) :: l) a w := h
theorem held2_nil {a : Act} {w : World} {b : Bool} (h : Q .normal a w) : wpHeld2 P ops Q S1 S2 b [] a w := h
end
end Alg
end
section
open Go
namespace Alg
section
variable {F : Fence} {n : Nat} {P : Program} {ops : Array Oper} {Q : Exit → Act → World → Prop} {md : Region.Mode} {S S1 S2 : World → Prop}
def YI (P : Program) (ops : Array Oper) (S : World → Prop) (o : Oper) (v : Value) (a : Act) : Prop := YieldsIf P ops S o v a ∧ ∀ w, o.about P w a.eval = none
def noDefer (ops : Array Oper) : Bool := ops.toList.all fun o => match o.op with | .defer _ => false | _ => true
theorem noDefer_spec (h : noDefer ops = true) : ∀ (j : Nat) (o : Oper) c, ops[j]? = some o → o.op ≠ .defer c := by
  intro j o c ho e
  have hm : o ∈ ops.toList := by
    rw [Array.getElem?_eq_some_iff] at ho
    obtain ⟨hj, rfl⟩ := ho
    exact Array.mem_toList_iff.2 (Array.getElem_mem hj)
  have := List.all_eq_true.1 h o hm
  rw [e] at this
  cases this
theorem YI.of_same {o : Oper} {v : Value} {a a' : Act} (hy : YI P ops S o v a) (he : execOp a'.eval o = execOp a.eval o)
    (hw : Region.wanted o (yielded ops a'.tmps) = Region.wanted o (yielded ops a.tmps)) (hb : ∀ w, o.about P w a'.eval = o.about P w a.eval) : YI P ops S o v a' :=
  ⟨hy.1.of_same he hw, fun w => by rw [hb w]; exact hy.2 w⟩
theorem YI.wpOp (hnd : ∀ (j : Nat) (o : Oper) c, ops[j]? = some o → o.op ≠ .defer c) {i : Nat} {o : Oper} {v : Value} {a : Act} (hi : ops[i]? = some o) (hy : YI P ops S o v a)
    {K : Act → World → Prop} {w : World} (hS : S w) (h : K (a.put o.dst v) w) : wpOpIn F n P ops Q i K a w := by
  unfold Go.wpOpIn
  simp only [hi]
  have hab : ∀ f, o.about P w a.eval = some f → F.fn f := fun f hf => by rw [hy.2 w] at hf; cases hf
  rcases hy.1 with ⟨hw, hv⟩ | ⟨hw, rfl⟩
  · simp only [hw, if_true, Oper.wpIn, Oper.semAt_eq _ _ _ (fun c => hnd i o c hi), hv w hS, Oper.uponIn]; exact ⟨hab, h⟩
  · simp only [hw, Bool.false_eq_true, if_false]; exact ⟨hab, h⟩
theorem wpOpIn_putIf {j : Nat} {oi oj : Oper} {v : Value} (hnd : ∀ (j : Nat) (o : Oper) c, ops[j]? = some o → o.op ≠ .defer c) (hj : ops[j]? = some oj) (hap : oi.apart ops oj = true)
    (hsi : ∀ cs b, oi.op ≠ .select cs b) (hsj : ∀ cs b, oj.op ≠ .select cs b)
    (hQ : ∀ c a w, Q (.panic c) (a.put oi.dst v) w → Q (.panic c) a w) {K : Act → World → Prop} {a : Act} {w : World}
    (hy : YI P ops S oi v a) (h : wpOpIn F n P ops Q j K (a.put oi.dst v) w) :
    wpOpIn F n P ops Q j (fun a' w' => YI P ops S oi v a' ∧ K (a'.put oi.dst v) w') a w := by
  obtain ⟨h1, h2, h3⟩ := Oper.apart_spec hap
  have keep : ∀ (a : Act), YI P ops S oi v a → ∀ u, YI P ops S oi v (a.put oj.dst u) := fun a hy u =>
    hy.of_same (execOp_put oi hsi a oj.dst u h3) (wanted_put oi a oj.dst u h3) (fun w => about_put oi w a oj.dst u h3)
  have keepD : ∀ d, YI P ops S oi v { a with defers := d :: a.defers } := fun d => hy.of_same rfl rfl (fun _ => rfl)
  have hsem : ∀ ρ, Oper.semAt F.round ρ oj = execOp ρ oj := fun ρ => Oper.semAt_eq _ _ _ (fun c => hnd j oj c hj)
  unfold wpOpIn at *
  simp only [hj] at *
  rw [wanted_put oj a oi.dst v h1, about_put oj w a oi.dst v h1] at h
  split
  · rename_i hw
    simp only [hw, if_true] at h
    unfold Oper.wpIn at *
    rw [about_put oj w a oi.dst v h1] at h
    refine ⟨h.1, ?_⟩
    have h := h.2
    rw [hsem, execOp_put oj hsj a oi.dst v h1] at h
    rw [hsem]
    generalize (execOp a.eval oj).run P w = r at *
    cases r with
    | ok x w' =>
      cases x <;> simp only [Oper.uponIn] at h ⊢
      case value u => exact ⟨keep a hy u, by rw [← Act.put_comm a v u h2]; exact h⟩
      case skip => exact ⟨keep a hy _, by rw [← Act.put_comm a v undef h2]; exact h⟩
      case defer d =>
        refine ⟨keep _ (keepD d) _, ?_⟩
        rw [← Act.put_comm _ v undef h2, ← Act.put_defers]
        exact h
      case enter f args =>
        refine ⟨h.1, CallsIn.mono h.2 fun e w'' he => ?_⟩
        cases e with
        | returned u => exact ⟨keep a hy u, by rw [← Act.put_comm a v u h2]; exact he⟩
        | panicked c => exact hQ _ _ _ he
        | outgrown => exact he
      case row row args => exact ⟨h.1, RowsIn.mono h.2 fun u w'' he => ⟨keep a hy u, by rw [← Act.put_comm a v u h2]; exact he⟩⟩
      case round l f tmps assign body =>
        refine ⟨h.1, RoundIn.mono h.2 fun e w'' he => ?_⟩
        cases e with
        | returned u => exact ⟨keep a hy u, by rw [← Act.put_comm a v u h2]; exact he⟩
        | panicked c => exact hQ _ _ _ he
        | outgrown => exact he
    | halt x w' =>
      cases x <;> simp only [Oper.uponIn] at h ⊢
      case panic u => exact hQ _ _ _ h
  · rename_i hw
    simp only [hw] at h
    exact ⟨h.1, keep a hy _, by rw [← Act.put_comm a v undef h2]; exact h.2⟩
theorem wpOpIn_stepI {i : Nat} {o : Oper} {K : Act → World → Prop} {a : Act} {w : World} (ho : ops[i]? = some o)
    (h : ∀ K' : Act → World → Prop, (∀ a w, K a w → K' a w) → if Region.wanted o (yielded ops a.tmps) = true then Oper.wpIn F n P o a w K' Q else ((∀ f, o.about P w a.eval = some f → F.fn f) ∧ K' (a.put o.dst undef) w)) : wpOpIn F n P ops Q i K a w := by
  unfold wpOpIn
  simp only [ho]
  exact h K (fun _ _ h => h)
def wpAnyKI (F : Fence) (n : Nat) (P : Program) (md : Region.Mode) (ops : Array Oper) (Q : Exit → Act → World → Prop) (S1 S2 : World → Prop) (k : Nat) : Nat → Array Bool → Act → World → Prop
  | 0, listed, a, w => Region.ready md ops listed = [] ∧ Q .normal a w
  | f + 1, listed, a, w =>
    (Region.ready md ops listed = [] → Q .normal a w) ∧
    ∀ i ∈ Region.ready md ops listed, wpOpIn F n P ops Q i (fun a' w' => SK S1 S2 ((listed.setIfInBounds i true).getD k false) w' ∧ wpAnyKI F n P md ops Q S1 S2 k f (listed.setIfInBounds i true) a' w') a w
theorem wpAnyIn_of_KI {k : Nat} : ∀ (f : Nat) (listed : Array Bool) (a : Act) (w : World), wpAnyKI F n P md ops Q S1 S2 k f listed a w → wpAnyIn F n P md ops Q f listed a w
  | 0, _, _, _, h => h
  | f + 1, _, _, _, h => ⟨h.1, fun i hi => wpOpIn_mono (fun a' w' h' => wpAnyIn_of_KI f _ a' w' h'.2) (h.2 i hi)⟩
theorem wpAnyKI_first {k i : Nat} {oi : Oper} {v : Value} {T : World → Prop} (hnd : ∀ (j : Nat) (o : Oper) c, ops[j]? = some o → o.op ≠ .defer c) (hi : ops[i]? = some oi) (hsel : ∀ (j : Nat) (o : Oper) cs b, ops[j]? = some o → o.op ≠ .select cs b)
    (hQ : ∀ c a w, Q (.panic c) (a.put oi.dst v) w → Q (.panic c) a w) (hki : i ≠ k)
    (hT : ∀ listed w, CInv md ops listed → listed.getD i true = false → SK S1 S2 (listed.getD k false) w → T w) :
    ∀ (f : Nat) (listed : Array Bool) (a : Act) (w : World), CInv md ops listed →
      (∀ j oj, ops[j]? = some oj → j ≠ i → listed.getD j true = false → (∀ e ∈ oj.after, Region.binds md e = true → e.on ≠ i) → oi.apart ops oj = true) →
      i ∈ Region.ready md ops listed → YI P ops T oi v a → SK S1 S2 (listed.getD k false) w →
      wpAnyKI F n P md ops Q S1 S2 k f (listed.setIfInBounds i true) (a.put oi.dst v) w → wpAnyKI F n P md ops Q S1 S2 k (f + 1) listed a w := by
  have hsame : ∀ (listed : Array Bool), (listed.setIfInBounds i true).getD k false = listed.getD k false := fun listed => getD_set_ne false hki
  intro f
  induction f with
  | zero =>
    intro listed a w inv _ hr hy hS H
    have hun := (mem_ready.1 hr).1
    refine ⟨fun h => (by rw [h] at hr; cases hr), fun j hj => ?_⟩
    by_cases hji : j = i
    · subst hji; exact YI.wpOp hnd hi hy (hT listed w inv hun hS) ⟨by rw [hsame]; exact hS, H⟩
    · have := ready_mono hj hji
      rw [H.1] at this
      cases this
  | succ f ih =>
    intro listed a w inv hfree hr hy hS H
    have hun := (mem_ready.1 hr).1
    refine ⟨fun h => (by rw [h] at hr; cases hr), fun j hj => ?_⟩
    by_cases hji : j = i
    · subst hji; exact YI.wpOp hnd hi hy (hT listed w inv hun hS) ⟨by rw [hsame]; exact hS, H⟩
    · have h1 := H.2 j (ready_mono hj hji)
      obtain ⟨hjun, oj, hoj, hall⟩ := mem_ready.1 hj
      have hnot : ∀ e ∈ oj.after, Region.binds md e = true → e.on ≠ i := fun e he hb heq => by
        have h1 := hall e he hb
        rw [heq, getD_both hun] at h1
        cases h1
      have h2 := wpOpIn_putIf hnd hoj (hfree j oj hoj hji hjun hnot) (fun cs b => hsel i oi cs b hi) (fun cs b => hsel j oj cs b hoj) hQ hy h1
      have hfree' : ∀ k ok, ops[k]? = some ok → k ≠ i → (listed.setIfInBounds j true).getD k true = false →
          (∀ e ∈ ok.after, Region.binds md e = true → e.on ≠ i) → oi.apart ops ok = true := fun k ok hk hki hun hno => by
        refine hfree k ok hk hki ?_ hno
        by_cases hjk : j = k
        · subst hjk; exact hjun
        · rw [getD_set_ne true hjk] at hun; exact hun
      refine wpOpIn_mono (fun a' w' h3 => ?_) h2
      have h4 := h3.2.1
      rw [Array.setIfInBounds_comm _ _ (Ne.symm hji), hsame] at h4
      refine ⟨h4, ih (listed.setIfInBounds j true) a' w' (inv.set hj) hfree' (ready_mono hr (Ne.symm hji)) h3.1 h4 ?_⟩
      rw [Array.setIfInBounds_comm _ _ hji]
      exact h3.2.2
/-- one operation behind the other: 0: loud; 1: quiet, and k waits for it; 2: quiet; 3: k itself -/
def wpHeldI (F : Fence) (n : Nat) (P : Program) (ops : Array Oper) (Q : Exit → Act → World → Prop) (S1 S2 : World → Prop) : Bool → List (Nat × Oper) → Act → World → Prop
  | _, [], a, w => Q .normal a w
  | b, (1, o) :: l, a, w => ∃ v, YI P ops S1 o v a ∧ wpHeldI F n P ops Q S1 S2 b l (a.put o.dst v) w
  | b, (2, o) :: l, a, w => ∃ v, YI P ops S2 o v a ∧ wpHeldI F n P ops Q S1 S2 b l (a.put o.dst v) w
  | _, (3, o) :: l, a, w => ∀ K : Act → World → Prop, Shut (∀ a w, S2 w → (S2 w → wpHeldI F n P ops Q S1 S2 true l a w) → K a w) → if Region.wanted o (yielded ops a.tmps) = true then Oper.wpIn F n P o a w K Q else ((∀ f, o.about P w a.eval = some f → F.fn f) ∧ K (a.put o.dst undef) w)
  | b, (_, o) :: l, a, w => ∀ K : Act → World → Prop, Shut (∀ a w, SK S1 S2 b w → (SK S1 S2 b w → wpHeldI F n P ops Q S1 S2 b l a w) → K a w) → if Region.wanted o (yielded ops a.tmps) = true then Oper.wpIn F n P o a w K Q else ((∀ f, o.about P w a.eval = some f → F.fn f) ∧ K (a.put o.dst undef) w)
theorem wpAnyKI_held {l : List Oper} {k : Nat} (hQ : ∀ c a (d : Option Tmp) v w, Q (.panic c) (a.put d v) w → Q (.panic c) a w) (h12 : ∀ w, S1 w → S2 w)
    (hsel : Region.noSelect l.toArray = true) (hnd : noDefer l.toArray = true) (hk : k < l.toArray.size) :
    ∀ (r : List (Nat × Nat)) (listed : Array Bool) (b : Bool) (a : Act) (w : World), CInv md l.toArray listed → listed.getD k false = b → heldHead2 md l.toArray k r listed = true → SK S1 S2 b w →
    wpHeldI F n P l.toArray Q S1 S2 b (pick2 l r) a w → wpAnyKI F n P md l.toArray Q S1 S2 k r.length listed a w
  | [], listed, b, a, w, _, _, hB, _, h => ⟨by simpa [heldHead2] using hB, h⟩
  | (0, i) :: r, listed, b, a, w, inv, hb, hB, hS, h => by
    simp only [heldHead2, Bool.and_eq_true, decide_eq_true_eq] at hB
    obtain ⟨⟨hik, hr⟩, hB'⟩ := hB
    have hr' : i ∈ Region.ready md l.toArray listed := by rw [hr]; simp
    obtain ⟨_, o, ho, _⟩ := mem_ready.1 hr'
    have ho' : l[i]? = some o := by simpa using ho
    unfold pick2 at h
    simp only [ho'] at h
    refine ⟨fun h0 => (by rw [hr] at h0; cases h0), fun j hj => ?_⟩
    rw [hr] at hj
    obtain rfl : j = i := by simpa using hj
    have e : (listed.setIfInBounds j true).getD k false = b := by rw [getD_set_ne false hik]; exact hb
    refine wpOpIn_stepI ho (fun K' hK => h K' (fun a w hS2 hW => hK a w ⟨by rw [e]; exact hS2, ?_⟩))
    exact wpAnyKI_held hQ h12 hsel hnd hk r _ b _ w (inv.set hr') e hB' hS2 (hW hS2)
  | (1, i) :: r, listed, b, a, w, inv, hb, hB, hS, h => by
    simp only [heldHead2, Bool.and_eq_true, decide_eq_true_eq] at hB
    obtain ⟨⟨⟨⟨hik, han⟩, hr⟩, hf⟩, hB'⟩ := hB
    have hr' : i ∈ Region.ready md l.toArray listed := by simpa using hr
    obtain ⟨_, o, ho, _⟩ := mem_ready.1 hr'
    have ho' : l[i]? = some o := by simpa using ho
    unfold pick2 at h
    simp only [ho'] at h
    obtain ⟨v, hy, hK⟩ := h
    have e : (listed.setIfInBounds i true).getD k false = b := by rw [getD_set_ne false hik]; exact hb
    refine wpAnyKI_first (noDefer_spec hnd) ho (Region.noSelect_spec hsel) (fun c a w => hQ c a _ _ w) hik ?_ r.length listed a w inv (Region.free_spec ho hf) hr' hy (by rw [hb]; exact hS)
      (wpAnyKI_held hQ h12 hsel hnd hk r _ b _ w (inv.set hr') e hB' hS hK)
    intro listed' w' inv' hun hS'
    have hku : listed'.getD k false = false := by
      cases hc : listed'.getD k false with
      | false => rfl
      | true =>
        have h3 := (ancs_spec han).listed inv' hc
        rw [getD_both hun] at h3
        cases h3
    rw [hku] at hS'
    exact hS'
  | (2, i) :: r, listed, b, a, w, inv, hb, hB, hS, h => by
    simp only [heldHead2, Bool.and_eq_true, decide_eq_true_eq] at hB
    obtain ⟨⟨⟨hik, hr⟩, hf⟩, hB'⟩ := hB
    have hr' : i ∈ Region.ready md l.toArray listed := by simpa using hr
    obtain ⟨_, o, ho, _⟩ := mem_ready.1 hr'
    have ho' : l[i]? = some o := by simpa using ho
    unfold pick2 at h
    simp only [ho'] at h
    obtain ⟨v, hy, hK⟩ := h
    have e : (listed.setIfInBounds i true).getD k false = b := by rw [getD_set_ne false hik]; exact hb
    refine wpAnyKI_first (noDefer_spec hnd) ho (Region.noSelect_spec hsel) (fun c a w => hQ c a _ _ w) hik ?_ r.length listed a w inv (Region.free_spec ho hf) hr' hy (by rw [hb]; exact hS)
      (wpAnyKI_held hQ h12 hsel hnd hk r _ b _ w (inv.set hr') e hB' hS hK)
    intro listed' w' _ _ hS'
    unfold SK at hS'
    split at hS'
    · exact hS'
    · exact h12 _ hS'
  | (3, i) :: r, listed, b, a, w, inv, _, hB, hS, h => by
    simp only [heldHead2, Bool.and_eq_true, decide_eq_true_eq] at hB
    obtain ⟨⟨hik, hr⟩, hB'⟩ := hB
    have hr' : i ∈ Region.ready md l.toArray listed := by rw [hr]; simp
    obtain ⟨_, o, ho, _⟩ := mem_ready.1 hr'
    have ho' : l[i]? = some o := by simpa using ho
    unfold pick2 at h
    simp only [ho'] at h
    refine ⟨fun h0 => (by rw [hr] at h0; cases h0), fun j hj => ?_⟩
    rw [hr] at hj
    obtain rfl : j = i := by simpa using hj
    have e : (listed.setIfInBounds j true).getD k false = true := by
      have : j < listed.size := by rw [inv.size, hik]; exact hk
      rw [← hik]; simp [this]
    refine wpOpIn_stepI ho (fun K' hK => h K' (fun a w hS2 hW => hK a w ⟨by rw [e]; exact hS2, ?_⟩))
    exact wpAnyKI_held hQ h12 hsel hnd hk r _ true _ w (inv.set hr') e hB' hS2 (hW hS2)
  | (_ + 4, i) :: r, listed, b, a, w, _, _, hB, _, _ => by simp [heldHead2] at hB
theorem wpIn_region_held2 {id : Nat} {a : Act} {w : World} {l : List Oper} (k : Nat) (r : List (Nat × Nat)) (S1 S2 : World → Prop) (hm : P.follows .mixedOrders = true) (hB : held2B .any l.toArray k r = true) (hnd : noDefer l.toArray = true)
    (hQ : ∀ c a (d : Option Tmp) v w, Q (.panic c) (a.put d v) w → Q (.panic c) a w) (h12 : ∀ w, S1 w → S2 w) (hS : S1 w.drew)
    (h : S1 w.drew → wpHeldI F n P l.toArray Q S1 S2 false (pick2 l r) a w.drew) : (Code.region id l.toArray true).wpIn F n P Q a w := by
  simp only [held2B, Bool.and_eq_true, decide_eq_true_eq] at hB
  obtain ⟨⟨⟨hsel, hk⟩, hlen⟩, hlex⟩ := hB
  have H := wpAnyKI_held (md := .any) hQ h12 hsel hnd hk r _ false a w.drew CInv.start (getD_replicate_false _ _) hlex hS (h hS)
  refine wpIn_region_any hm ?_
  rw [hlen] at H
  exact wpAnyIn_of_KI _ _ _ _ H
theorem heldI_early {o : Oper} {l : List (Nat × Oper)} {a : Act} {w : World} {v : Value} {b : Bool} (hw : Region.wanted o (yielded ops a.tmps) = true) (hab : ∀ w, o.about P w a.eval = none) (hy : ∀ w, S1 w → (execOp a.eval o).run P w = .ok (.value v) w)
    (h : wpHeldI F n P ops Q S1 S2 b l (a.put o.dst v) w) : wpHeldI F n P ops Q S1 S2 b ((1, o) :: l) a w := ⟨v, ⟨Or.inl ⟨hw, hy⟩, hab⟩, h⟩
theorem heldI_quiet {o : Oper} {l : List (Nat × Oper)} {a : Act} {w : World} {v : Value} {b : Bool} (hw : Region.wanted o (yielded ops a.tmps) = true) (hab : ∀ w, o.about P w a.eval = none) (hy : ∀ w, S2 w → (execOp a.eval o).run P w = .ok (.value v) w)
    (h : wpHeldI F n P ops Q S1 S2 b l (a.put o.dst v) w) : wpHeldI F n P ops Q S1 S2 b ((2, o) :: l) a w := ⟨v, ⟨Or.inl ⟨hw, hy⟩, hab⟩, h⟩
theorem heldI_loud {o : Oper} {l : List (Nat × Oper)} {a : Act} {w : World}
    (h : ∀ K : Act → World → Prop, Shut (∀ a w, S1 w → (S1 w → wpHeldI F n P ops Q S1 S2 false l a w) → K a w) → if Region.wanted o (yielded ops a.tmps) = true then Oper.wpIn F n P o a w K Q else ((∀ f, o.about P w a.eval = some f → F.fn f) ∧ K (a.put o.dst undef) w)) :
    wpHeldI F n P ops Q S1 S2 false ((0, o) :: l) a w := fun K hK => h K (fun a w h1 h2 => hK.out a w h1 h2)
theorem heldI_loud' {o : Oper} {l : List (Nat × Oper)} {a : Act} {w : World}
    (h : ∀ K : Act → World → Prop, Shut (∀ a w, S2 w → (S2 w → wpHeldI F n P ops Q S1 S2 true l a w) → K a w) → if Region.wanted o (yielded ops a.tmps) = true then Oper.wpIn F n P o a w K Q else ((∀ f, o.about P w a.eval = some f → F.fn f) ∧ K (a.put o.dst undef) w)) :
    wpHeldI F n P ops Q S1 S2 true ((0, o) :: l) a w := fun K hK => h K (fun a w h1 h2 => hK.out a w h1 h2)
theorem heldI_store {o : Oper} {l : List (Nat × Oper)} {a : Act} {w : World} {b : Bool}
    (h : ∀ K : Act → World → Prop, Shut (∀ a w, S2 w → (S2 w → wpHeldI F n P ops Q S1 S2 true l a w) → K a w) → if Region.wanted o (yielded ops a.tmps) = true then Oper.wpIn F n P o a w K Q else ((∀ f, o.about P w a.eval = some f → F.fn f) ∧ K (a.put o.dst undef) w)) :
    wpHeldI F n P ops Q S1 S2 b ((3, o) :: l) a w := h
theorem heldI_nil {a : Act} {w : World} {b : Bool} (h : Q .normal a w) : wpHeldI F n P ops Q S1 S2 b [] a w := h
end
end Alg
end
end
section
open Go
namespace Alg
section
variable {P : Program} {ops : Array Oper} {Q : Exit → Act → World → Prop} {S1 S2 : World → Prop}
theorem held2_skip1 {o : Oper} {l : List (Nat × Oper)} {a : Act} {w : World} {b : Bool} (hw : Region.wanted o (yielded ops a.tmps) = false)
    (h : wpHeld2 P ops Q S1 S2 b l (a.put o.dst undef) w) : wpHeld2 P ops Q S1 S2 b ((1, o) :: l) a w := ⟨undef, Or.inr ⟨hw, rfl⟩, h⟩
theorem held2_skip2 {o : Oper} {l : List (Nat × Oper)} {a : Act} {w : World} {b : Bool} (hw : Region.wanted o (yielded ops a.tmps) = false)
    (h : wpHeld2 P ops Q S1 S2 b l (a.put o.dst undef) w) : wpHeld2 P ops Q S1 S2 b ((2, o) :: l) a w := ⟨undef, Or.inr ⟨hw, rfl⟩, h⟩
end
end Alg
end
section
open Go Go.RowKit
namespace Alg
/-- it has grown -/
abbrev Rb (w w' : World) : Prop := Below w.heap.size w w'
theorem Rb.refl (w : World) : Rb w w := Below.refl _ _
theorem Rb.tr {a b c : World} (h : Rb a b) (k : Rb b c) : Rb a c := h.trans (k.mono h.size)
/-- a box that is laid at any time: its operation, its slot, its cells, their type -/
structure Lay where
  op : Nat
  dst : Tmp
  cs : Array Value
  ty : TypeId
section
variable {P : Program} {ops : Array Oper} {Q : Exit → Act → World → Prop} {md : Region.Mode}
/-- one that lies, in its slot -/
def act1 (bl : Nat → Option Nat) (x : Lay) (a : Act) : Act := match bl x.op with | some b => a.put (some x.dst) (.pointer (some ⟨b, 0, none⟩)) | none => a
theorem act1_none {bl : Nat → Option Nat} {x : Lay} (h : bl x.op = none) (a : Act) : act1 bl x a = a := by unfold act1; rw [h]
theorem act1_some {bl : Nat → Option Nat} {x : Lay} {b : Nat} (h : bl x.op = some b) (a : Act) : act1 bl x a = a.put (some x.dst) (.pointer (some ⟨b, 0, none⟩)) := by unfold act1; rw [h]
/-- the boxes that lie, in their slots -/
def acts : List Lay → (Nat → Option Nat) → Act → Act
  | [], _, a => a
  | x :: A, bl, a => acts A bl (act1 bl x a)
theorem act1_comm (bl : Nat → Option Nat) (x : Lay) (d : Option Tmp) (v : Value) (a : Act) (h : d ≠ some x.dst) : (act1 bl x a).put d v = act1 bl x (a.put d v) := by
  cases hb : bl x.op with
  | none => rw [act1_none hb, act1_none hb]
  | some b => rw [act1_some hb, act1_some hb]; exact Act.put_comm a _ v (fun e he => by
      have : x.dst = e := Option.some.inj he
      subst this; exact h)
theorem acts_comm (bl : Nat → Option Nat) (d : Option Tmp) (v : Value) : ∀ (A : List Lay) (a : Act), (∀ x ∈ A, d ≠ some x.dst) → (acts A bl a).put d v = acts A bl (a.put d v)
  | [], a, _ => rfl
  | x :: A, a, h => by
    show (acts A bl (act1 bl x a)).put d v = acts A bl (act1 bl x (a.put d v))
    rw [acts_comm bl d v A _ (fun y hy => h y (List.mem_cons_of_mem _ hy)), act1_comm bl x d v a (h x List.mem_cons_self)]
theorem acts_congr (bl bl' : Nat → Option Nat) : ∀ (A : List Lay) (a : Act), (∀ x ∈ A, bl x.op = bl' x.op) → acts A bl a = acts A bl' a
  | [], a, _ => rfl
  | x :: A, a, h => by
    show acts A bl (act1 bl x a) = acts A bl' (act1 bl' x a)
    have e : act1 bl x a = act1 bl' x a := by unfold act1; rw [h x List.mem_cons_self]
    rw [e]
    exact acts_congr bl bl' A _ (fun y hy => h y (List.mem_cons_of_mem _ hy))
def upd (bl : Nat → Option Nat) (i b : Nat) : Nat → Option Nat := fun k => if k = i then some b else bl k
theorem upd_same (bl : Nat → Option Nat) (i b : Nat) : upd bl i b i = some b := by unfold upd; rw [if_pos rfl]
theorem upd_other {bl : Nat → Option Nat} {i b k : Nat} (h : k ≠ i) : upd bl i b k = bl k := by unfold upd; rw [if_neg h]
theorem acts_put (bl : Nat → Option Nat) (b : Nat) (x : Lay) : ∀ (A : List Lay) (a : Act), x ∈ A → (A.map Lay.op).Nodup → (A.map Lay.dst).Nodup → bl x.op = none →
    (acts A bl a).put (some x.dst) (.pointer (some ⟨b, 0, none⟩)) = acts A (upd bl x.op b) a
  | [], a, h, _, _, _ => by cases h
  | y :: A, a, h, hn, hd, hb => by
    rw [List.map_cons, List.nodup_cons] at hn hd
    show (acts A bl (act1 bl y a)).put _ _ = acts A (upd bl x.op b) (act1 (upd bl x.op b) y a)
    rcases List.mem_cons.1 h with e | h'
    · subst e
      rw [act1_none hb, act1_some (upd_same bl x.op b), acts_comm bl _ _ A a (fun z hz e => hd.1 (by rw [Option.some.inj e]; exact List.mem_map_of_mem hz))]
      refine acts_congr _ _ A _ fun z hz => (upd_other fun e => hn.1 ?_).symm
      rw [← e]; exact List.mem_map_of_mem hz
    · have hne : y.op ≠ x.op := fun e => hn.1 (by rw [e]; exact List.mem_map_of_mem h')
      have e1 : act1 (upd bl x.op b) y a = act1 bl y a := by unfold act1; rw [upd_other hne]
      rw [e1]
      exact acts_put bl b x A _ h' hn.2 hd.2 hb
/-- an operation that neither reads nor writes a slot runs alike whatever stands in it -/
theorem wpOp_rev {j : Nat} {oj : Oper} {d : Option Tmp} {v : Value} (hj : ops[j]? = some oj) (h1 : ∀ e, d = some e → e ∉ oj.looksAt ops) (h2 : ∀ e, d = some e → oj.dst ≠ some e)
    (hsj : ∀ cs b, oj.op ≠ .select cs b) (hQ : ∀ c a w, Q (.panic c) a w → Q (.panic c) (a.put d v) w) {K : Act → World → Prop} {a : Act} {w : World} (h : wpOp P ops Q j K a w) :
    wpOp P ops Q j (fun a' w' => ∃ a'', a' = a''.put d v ∧ K a'' w') (a.put d v) w := by
  unfold wpOp at *
  simp only [hj] at *
  rw [wanted_put oj a d v h1]
  split
  · rename_i hw
    simp only [hw, if_true] at h
    rcases h with h | ⟨hasks, hlets⟩
    case inr => exact .inr ⟨by unfold Oper.asks at *; rw [execOp_put oj hsj a d v h1]; exact hasks, hlets⟩
    refine .inl ?_
    unfold Oper.wp at *
    rw [execOp_put oj hsj a d v h1]
    generalize (execOp a.eval oj).run P w = r at *
    cases r with
    | ok n w' =>
      cases n <;> simp only [Oper.upon] at h ⊢
      case value u => exact ⟨_, Act.put_comm a v u h2, h⟩
      case skip => exact ⟨_, Act.put_comm a v undef h2, h⟩
      case defer df => exact ⟨_, by rw [Act.put_defers]; exact Act.put_comm _ v undef h2, h⟩
      case enter f args =>
        refine Calls.mono h fun e w'' he => ?_
        cases e with
        | returned u => exact ⟨_, Act.put_comm a v u h2, he⟩
        | panicked c => exact hQ _ _ _ he
        | outgrown => exact he
      case row row args => exact Rows.mono h fun u w'' he => ⟨_, Act.put_comm a v u h2, he⟩
    | halt x w' =>
      cases x <;> simp only [Oper.upon] at h ⊢
      case panic u => exact hQ _ _ _ h
  · rename_i hw
    simp only [hw] at h
    exact ⟨_, Act.put_comm a v undef h2, h⟩
theorem wpOp_acts {j : Nat} {oj : Oper} (hj : ops[j]? = some oj) (hsj : ∀ cs b, oj.op ≠ .select cs b) (hQ : ∀ c a d v w, Q (.panic c) a w → Q (.panic c) (a.put d v) w) (bl : Nat → Option Nat) :
    ∀ (A : List Lay), (∀ x ∈ A, x.dst ∉ oj.looksAt ops ∧ oj.dst ≠ some x.dst) → ∀ {K : Act → World → Prop} {a : Act} {w : World}, wpOp P ops Q j K a w →
    wpOp P ops Q j (fun a' w' => ∃ a'', a' = acts A bl a'' ∧ K a'' w') (acts A bl a) w := by
  intro A
  induction A with
  | nil => intro _ K a w h; exact wpOp_mono (fun a' w' hk => ⟨a', rfl, hk⟩) h
  | cons x A ih =>
    intro hA K a w h
    obtain ⟨x1, x2⟩ := hA x List.mem_cons_self
    have ih' := fun {K : Act → World → Prop} {a : Act} (h : wpOp P ops Q j K a w) => ih (fun y hy => hA y (List.mem_cons_of_mem _ hy)) h
    cases hb : bl x.op with
    | none =>
      have e : ∀ a, acts (x :: A) bl a = acts A bl a := fun a => by show acts A bl (act1 bl x a) = _; rw [act1_none hb]
      rw [e]
      exact wpOp_mono (fun a' w' ⟨a'', h1, h2⟩ => ⟨a'', by rw [e]; exact h1, h2⟩) (ih' h)
    | some b =>
      have e : ∀ a, acts (x :: A) bl a = acts A bl (a.put (some x.dst) (.pointer (some ⟨b, 0, none⟩))) := fun a => by show acts A bl (act1 bl x a) = _; rw [act1_some hb]
      rw [e]
      have h3 := wpOp_rev (P := P) (Q := Q) (d := some x.dst) (v := .pointer (some ⟨b, 0, none⟩)) hj (fun k hk => by cases hk; exact x1) (fun k hk => by cases hk; exact x2) hsj (fun c a w => hQ c a _ _ w) h
      exact wpOp_mono (fun a' w' ⟨a'', h1, a3, h2, h4⟩ => ⟨a3, by rw [e, h1, h2], h4⟩) (ih' h3)

def wpAnyR (P : Program) (md : Region.Mode) (ops : Array Oper) (Q : Exit → Act → World → Prop) (n : Nat) (L : Array Bool → Act → World → Prop) : Nat → Array Bool → Act → World → Prop
  | 0, listed, a, w => L listed a w
  | f + 1, listed, a, w =>
    Region.ready md ops listed ≠ [] ∧ ∀ i ∈ Region.ready md ops listed, i < n ∧ wpOp P ops Q i (fun a' w' => Rb w w' ∧ ∀ w1, Rb w' w1 → wpAnyR P md ops Q n L f (listed.setIfInBounds i true) a' w1) a w
theorem wpAnyR_first {n i : Nat} {oi : Oper} {v : Value} {w0 : World} {L : Array Bool → Act → World → Prop} (hi : ops[i]? = some oi) (hsel : ∀ (j : Nat) (o : Oper) cs b, ops[j]? = some o → o.op ≠ .select cs b)
    (hQ : ∀ c a w, Q (.panic c) (a.put oi.dst v) w → Q (.panic c) a w)
    (hs : Region.sinkB md ops n = true) (hc : Region.chainB md ops n = true) (hn : n < ops.size) (hin : i < n)
    (hdone : ∀ listed a w, L listed a w → ∀ j ∈ Region.ready md ops listed, n ≤ j) :
    ∀ (f : Nat) (listed : Array Bool) (a : Act) (w : World), HeadInv md ops n listed →
      (∀ j oj, ops[j]? = some oj → j ≠ i → listed.getD j true = false → (∀ e ∈ oj.after, Region.binds md e = true → e.on ≠ i) → oi.apart ops oj = true) →
      i ∈ Region.ready md ops listed → YieldsIf P ops (Rb w0) oi v a → Rb w0 w →
      (∀ w1, Rb w w1 → wpAnyR P md ops Q n L f (listed.setIfInBounds i true) (a.put oi.dst v) w1) → wpAnyR P md ops Q n L (f + 1) listed a w := by
  intro f
  induction f with
  | zero =>
    intro listed a w inv _ hr hy hS H
    have hun := (mem_ready.1 hr).1
    refine ⟨fun h => (by rw [h] at hr; cases hr), fun j hj => ?_⟩
    have hjn : j < n := by
      rcases Nat.lt_or_ge j n with h | h
      · exact h
      · exact absurd hj (tail_waits hs hc hn inv _ i rfl hin hun j h)
    refine ⟨hjn, ?_⟩
    by_cases hji : j = i
    · subst hji; exact hy.wpOp hi hS ⟨Rb.refl _, H⟩
    · have := hdone _ _ _ (H w (Rb.refl _)) j (ready_mono hj hji)
      omega
  | succ f ih =>
    intro listed a w inv hfree hr hy hS H
    have hun := (mem_ready.1 hr).1
    refine ⟨fun h => (by rw [h] at hr; cases hr), fun j hj => ?_⟩
    have hjn : j < n := by
      rcases Nat.lt_or_ge j n with h | h
      · exact h
      · exact absurd hj (tail_waits hs hc hn inv _ i rfl hin hun j h)
    refine ⟨hjn, ?_⟩
    by_cases hji : j = i
    · subst hji; exact hy.wpOp hi hS ⟨Rb.refl _, H⟩
    · have h1 := ((H w (Rb.refl _)).2 j (ready_mono hj hji)).2
      obtain ⟨hjun, oj, hoj, hall⟩ := mem_ready.1 hj
      have hnot : ∀ e ∈ oj.after, Region.binds md e = true → e.on ≠ i := fun e he hb heq => by
        have h1 := hall e he hb
        rw [heq, getD_both hun] at h1
        cases h1
      have h2 := wpOp_putIf hoj (hfree j oj hoj hji hjun hnot) (fun cs b => hsel i oi cs b hi) (fun cs b => hsel j oj cs b hoj) hQ hy h1
      have hfree' : ∀ k ok, ops[k]? = some ok → k ≠ i → (listed.setIfInBounds j true).getD k true = false →
          (∀ e ∈ ok.after, Region.binds md e = true → e.on ≠ i) → oi.apart ops ok = true := fun k ok hk hki hun hno => by
        refine hfree k ok hk hki ?_ hno
        by_cases hjk : j = k
        · subst hjk; exact hjun
        · rw [getD_set_ne true hjk] at hun; exact hun
      refine wpOp_mono (fun a' w' h3 => ⟨h3.2.1, fun w1 hw1 => ih (listed.setIfInBounds j true) a' w1 (inv.set hj hjn) hfree' (ready_mono hr (Ne.symm hji)) h3.1 ((hS.tr h3.2.1).tr hw1) (fun w2 hw2 => ?_)⟩) h2
      rw [Array.setIfInBounds_comm _ _ hji]
      exact h3.2.2 w2 (hw1.tr hw2)
/-- one operation behind the other, in the order chosen: quiet ones (true) yield in every world that has grown out of w0; behind each loud one the world has grown -/
def wpHeldR (P : Program) (ops : Array Oper) (Q : Exit → Act → World → Prop) (w0 : World) (L : Act → World → Prop) : List (Bool × Oper) → Act → World → Prop
  | [], a, w => L a w
  | (true, o) :: l, a, w => ∃ v, YieldsIf P ops (Rb w0) o v a ∧ wpHeldR P ops Q w0 L l (a.put o.dst v) w
  | (false, o) :: l, a, w => ∀ K : Act → World → Prop, Shut (∀ a w', Rb w w' → (∀ w1, Rb w' w1 → wpHeldR P ops Q w0 L l a w1) → K a w') → if Region.wanted o (yielded ops a.tmps) = true then Oper.wp P o a w K Q else K (a.put o.dst undef) w
theorem yieldsIf_same {S : World → Prop} {o : Oper} {v u : Value} {a : Act} {w : World} (hS : S w) (h : YieldsIf P ops S o v a) (k : YieldsIf P ops S o u a) : v = u := by
  rcases h with ⟨h1, h2⟩ | ⟨h1, h2⟩ <;> rcases k with ⟨k1, k2⟩ | ⟨k1, k2⟩
  · have e := (h2 w hS).symm.trans (k2 w hS)
    cases e; rfl
  · rw [h1] at k1; cases k1
  · rw [h1] at k1; cases k1
  · rw [h2, k2]
theorem wpAnyR_held {l : List Oper} {n g : Nat} {w0 : World} {Lq : Act → World → Prop} (hQ : ∀ c a (d : Option Tmp) v w, Q (.panic c) (a.put d v) w → Q (.panic c) a w)
    (hsel : Region.noSelect l.toArray = true) (hs : Region.sinkB md l.toArray n = true) (hc : Region.chainB md l.toArray n = true) (hn : n < l.toArray.size) :
    ∀ (r : List (Bool × Nat)) (listed : Array Bool) (a : Act) (w : World), HeadInv md l.toArray n listed → heldHead md l.toArray n g r listed = true → Rb w0 w →
    (∀ w1, Rb w w1 → wpHeldR P l.toArray Q w0 Lq (pick l r) a w1) → wpAnyR P md l.toArray Q n (fun listed' a' w' => Region.seqB md l.toArray g n listed' = true ∧ Lq a' w') r.length listed a w
  | [], listed, a, w, _, hB, _, h => ⟨hB, h w (Rb.refl _)⟩
  | (true, i) :: r, listed, a, w, inv, hB, hS, h => by
    simp only [heldHead, Bool.and_eq_true, decide_eq_true_eq] at hB
    obtain ⟨⟨⟨hin, hr⟩, hf⟩, hB'⟩ := hB
    have hr' : i ∈ Region.ready md l.toArray listed := by simpa using hr
    obtain ⟨_, o, ho, _⟩ := mem_ready.1 hr'
    have ho' : l[i]? = some o := by simpa using ho
    unfold pick at h
    simp only [ho'] at h
    obtain ⟨v, hy, _⟩ := h w (Rb.refl _)
    refine wpAnyR_first ho (Region.noSelect_spec hsel) (fun c a w => hQ c a _ _ w) hs hc hn hin (fun listed' a' w' hL => seqB_ready hL.1) r.length listed a w inv (Region.free_spec ho hf) hr' hy hS (fun w1 hw1 => ?_)
    refine wpAnyR_held hQ hsel hs hc hn r _ _ w1 (inv.set hr' hin) hB' (hS.tr hw1) (fun w2 hw2 => ?_)
    obtain ⟨u, hu, hK⟩ := h w2 (hw1.tr hw2)
    rw [yieldsIf_same hS hy hu]
    exact hK
  | (false, i) :: r, listed, a, w, inv, hB, hS, h => by
    simp only [heldHead, Bool.and_eq_true, decide_eq_true_eq] at hB
    obtain ⟨⟨hin, hr⟩, hB'⟩ := hB
    have hr' : i ∈ Region.ready md l.toArray listed := by rw [hr]; simp
    obtain ⟨_, o, ho, _⟩ := mem_ready.1 hr'
    have ho' : l[i]? = some o := by simpa using ho
    unfold pick at h
    simp only [ho'] at h
    refine ⟨fun h0 => (by rw [hr] at h0; cases h0), fun j hj => ?_⟩
    rw [hr] at hj
    obtain rfl : j = i := by simpa using hj
    refine ⟨hin, wpOp_step ho (fun K' hK => h w (Rb.refl _) K' (fun a' w' hR hW => hK a' w' ⟨hR, fun w1 hw1 => ?_⟩))⟩
    exact wpAnyR_held hQ hsel hs hc hn r _ _ w1 (inv.set hr' hin) hB' ((hS.tr hR).tr hw1) (fun w2 hw2 => hW w2 (hw1.tr hw2))
/-- what is told of the boxes that lie -/
structure Good (A : List Lay) (w0 : World) (bl : Nat → Option Nat) (w : World) : Prop where
  obj : ∀ x ∈ A, ∀ b, bl x.op = some b → w0.heap.size ≤ b ∧ w.heap[b]? = some (.cells x.cs x.ty)
  ne : ∀ x ∈ A, ∀ y ∈ A, x.op ≠ y.op → ∀ b, bl x.op = some b → bl y.op ≠ some b
theorem Good.mono {A : List Lay} {w0 w w' : World} {bl : Nat → Option Nat} (h : Good A w0 bl w) (hb : Rb w w') : Good A w0 bl w' where
  obj := fun x hx b e => by
    obtain ⟨h1, h2⟩ := h.obj x hx b e
    exact ⟨h1, (hb.block b (Array.getElem?_eq_some_iff.1 h2).1).trans h2⟩
  ne := h.ne
theorem Good.lay {A : List Lay} {w0 w : World} {bl : Nat → Option Nat} (h : Good A w0 bl w) (hw : Rb w0 w) (x : Lay) (hn : ∀ y ∈ A, y.op = x.op → y = x) : Good A w0 (upd bl x.op w.heap.size) (w.alloc (.cells x.cs x.ty)) where
  obj := fun y hy b e => by
    unfold upd at e
    split at e
    · rename_i he
      have hb : w.heap.size = b := Option.some.inj e
      have hyx := hn y hy he
      subst hyx
      exact ⟨by rw [← hb]; exact hw.size, by
        rw [← hb]
        show (w.heap.push (.cells y.cs y.ty))[w.heap.size]? = _
        rw [Array.getElem?_push_size]⟩
    · obtain ⟨h1, h2⟩ := h.obj y hy b e
      have hlt := (Array.getElem?_eq_some_iff.1 h2).1
      exact ⟨h1, by
        show (w.heap.push (.cells x.cs x.ty))[b]? = _
        rw [Array.getElem?_push, if_neg (by omega)]
        exact h2⟩
  ne := fun y hy z hz hne b e k => by
    have key : ∀ t ∈ A, ∀ c, bl t.op = some c → c < w.heap.size := fun t ht c hc => (Array.getElem?_eq_some_iff.1 (h.obj t ht c hc).2).1
    unfold upd at e k
    split at e
    · rename_i he
      have hb : w.heap.size = b := Option.some.inj e
      split at k
      · rename_i hk; exact hne (he.trans hk.symm)
      · have := key z hz b k; omega
    · split at k
      · have hb : w.heap.size = b := Option.some.inj k
        have := key y hy b e; omega
      · exact h.ne y hy z hz hne b e k
def layB (md : Region.Mode) (ops : Array Oper) (n : Nat) (A : List Lay) : Bool :=
  A.all fun x => decide (x.op < n) && (match ops[x.op]? with
    | some o => decide (o.dst = some x.dst) && decide (o.guard = none) && o.after.all (fun e => !Region.binds md e)
    | none => false) &&
    (List.range ops.size).all fun j => decide (n ≤ j) || A.any (fun y => decide (y.op = j)) || (match ops[j]? with
      | some oj => !(oj.looksAt ops).contains x.dst && decide (oj.dst ≠ some x.dst) && oj.after.all (fun e => !Region.binds md e || decide (e.on ≠ x.op))
      | none => true)
theorem real_of {l : List Oper} {n g : Nat} {w0 : World} {A : List Lay} {Lq : Act → World → Prop} (hQ : ∀ c a d v w, Q (.panic c) a w → Q (.panic c) (a.put d v) w)
    (hsel : Region.noSelect l.toArray = true) (hs : Region.sinkB md l.toArray n = true) (hc : Region.chainB md l.toArray n = true) (hn : n < l.toArray.size) (hA : layB md l.toArray n A = true)
    (hop : (A.map Lay.op).Nodup) (hdst : (A.map Lay.dst).Nodup)
    (hrun : ∀ x ∈ A, ∀ o, l[x.op]? = some o → ∀ ρ w, (execOp ρ o).run P w = .ok (.value (.pointer (some ⟨w.heap.size, 0, none⟩))) (w.alloc (.cells x.cs x.ty)))
    (hend : ∀ listed a w, Region.seqB md l.toArray g n listed = true → Lq a w → wpAny P md l.toArray Q g listed a w) :
    ∀ (k f : Nat) (bl : Nat → Option Nat) (listed lr : Array Bool) (a : Act) (w : World), k = f + (A.filter fun x => (bl x.op).isNone).length → HeadInv md l.toArray n listed → HeadInv md l.toArray n lr →
      (∀ j, j < l.toArray.size → lr.getD j true = if (A.any fun x => decide (x.op = j) && (bl x.op).isNone) = true then false else listed.getD j true) →
      (∀ x ∈ A, listed.getD x.op false = true) → Good A w0 bl w → Rb w0 w →
      (∀ w1, Rb w w1 → wpAnyR P md l.toArray Q n (fun listed' a' w' => Region.seqB md l.toArray g n listed' = true ∧ ∀ bl w1, Rb w' w1 → (∀ x ∈ A, (bl x.op).isSome = true) → Good A w0 bl w1 → Lq (acts A bl a') w1) f listed a w1) →
      wpAny P md l.toArray Q (k + g) lr (acts A bl a) w := by
  have hA' : ∀ x ∈ A, x.op < n ∧ (∃ o, l.toArray[x.op]? = some o ∧ o.dst = some x.dst ∧ o.guard = none ∧ ∀ e ∈ o.after, Region.binds md e = false) ∧
      ∀ j oj, l.toArray[j]? = some oj → j < n → (∀ y ∈ A, y.op ≠ j) → x.dst ∉ oj.looksAt l.toArray ∧ oj.dst ≠ some x.dst ∧ ∀ e ∈ oj.after, Region.binds md e = true → e.on ≠ x.op := by
    intro x hx
    have h := List.all_eq_true.1 hA x hx
    simp only [Bool.and_eq_true, decide_eq_true_eq] at h
    obtain ⟨⟨h1, h2⟩, h3⟩ := h
    refine ⟨h1, ?_, ?_⟩
    · split at h2
      · rename_i o ho
        simp only [Bool.and_eq_true, decide_eq_true_eq] at h2
        refine ⟨o, ho, h2.1.1, h2.1.2, fun e he => ?_⟩
        have := Array.all_eq_true_iff_forall_mem.1 h2.2 e he
        simpa using this
      · cases h2
    · intro j oj hj hjn hy
      have hjs : j < l.toArray.size := (Array.getElem?_eq_some_iff.1 hj).1
      have h4 := List.all_eq_true.1 h3 j (List.mem_range.2 hjs)
      simp only [Bool.or_eq_true, decide_eq_true_eq, hj, Bool.and_eq_true] at h4
      rcases h4 with (h4 | h4) | h4
      · omega
      · obtain ⟨y, hy1, hy2⟩ := List.any_eq_true.1 h4
        exact absurd (of_decide_eq_true hy2) (hy y hy1)
      · refine ⟨by simpa using h4.1.1, h4.1.2, fun e he hb => ?_⟩
        have := Array.all_eq_true_iff_forall_mem.1 h4.2 e he
        simpa [hb] using this
  have uniq : ∀ x ∈ A, ∀ y ∈ A, y.op = x.op → y = x := fun x hx y hy e => by
    have : ∀ (A : List Lay), (A.map Lay.op).Nodup → x ∈ A → y ∈ A → y = x := by
      intro A
      induction A with
      | nil => intro _ h; cases h
      | cons z A ih =>
        intro hnd h1 h2
        rw [List.map_cons, List.nodup_cons] at hnd
        rcases List.mem_cons.1 h1 with e1 | h1 <;> rcases List.mem_cons.1 h2 with e2 | h2
        · rw [e1, e2]
        · exact absurd (by rw [← e1, ← e]; exact List.mem_map_of_mem (f := Lay.op) h2) hnd.1
        · exact absurd (by rw [← e2, e]; exact List.mem_map_of_mem (f := Lay.op) h1) hnd.1
        · exact ih hnd.2 h1 h2
    exact this A hop hx hy
  intro k
  induction k with
  | zero =>
    intro f bl listed lr a w hk inv inv' hlr hAl hG hw H
    have hf : f = 0 := by omega
    subst hf
    have hnone : ∀ x ∈ A, (bl x.op).isSome = true := fun x hx => by
      cases hb : bl x.op with
      | some b => rfl
      | none =>
        have : x ∈ A.filter fun x => (bl x.op).isNone := List.mem_filter.2 ⟨hx, by rw [hb]; rfl⟩
        have := List.length_pos_of_mem this
        omega
    obtain ⟨h1, h2⟩ := H w (Rb.refl _)
    have hsame : lr = listed := by
      apply Array.ext (by rw [inv.size, inv'.size])
      intro j hj1 hj2
      have h3 := hlr j (by rw [← inv'.size]; exact hj1)
      rw [if_neg (by
        intro hx
        obtain ⟨x, hx1, hx2⟩ := List.any_eq_true.1 hx
        simp only [Bool.and_eq_true] at hx2
        have := hnone x hx1
        rw [Option.isSome_iff_ne_none] at this
        exact this (Option.isNone_iff_eq_none.1 hx2.2))] at h3
      simpa [hj1, hj2] using h3
    rw [hsame, Nat.zero_add]
    exact hend _ _ _ h1 (h2 bl w (Rb.refl _) hnone hG)
  | succ k ih =>
    intro f bl listed lr a w hk inv inv' hlr hAl hG hw H
    -- what may come up
    have hrem : ∀ x ∈ A, bl x.op = none → x.op ∈ Region.ready md l.toArray lr := fun x hx hb => by
      obtain ⟨h1, ⟨o, ho, _, _, ha⟩, _⟩ := hA' x hx
      rw [mem_ready]
      refine ⟨?_, o, ho, fun e he hbd => by rw [ha e he] at hbd; cases hbd⟩
      rw [hlr _ (Array.getElem?_eq_some_iff.1 ho).1, if_pos]
      exact List.any_eq_true.2 ⟨x, hx, by simp [hb]⟩
    have hsub : ∀ j, j ∈ Region.ready md l.toArray lr → (∀ x ∈ A, bl x.op = none → x.op ≠ j) → j ∈ Region.ready md l.toArray listed := fun j hj hno => by
      obtain ⟨h1, o, ho, h3⟩ := mem_ready.1 hj
      have hjs := (Array.getElem?_eq_some_iff.1 ho).1
      rw [mem_ready]
      refine ⟨?_, o, ho, fun e he hbd => ?_⟩
      · rw [hlr j hjs, if_neg] at h1
        · exact h1
        · intro hx
          obtain ⟨x, hx1, hx2⟩ := List.any_eq_true.1 hx
          simp only [Bool.and_eq_true, decide_eq_true_eq] at hx2
          exact hno x hx1 (Option.isNone_iff_eq_none.1 hx2.2) hx2.1
      · have h4 := h3 e he hbd
        have hes : e.on < l.toArray.size := by
          rcases Nat.lt_or_ge e.on lr.size with h | h
          · rw [← inv'.size]; exact h
          · simp [Array.getElem?_eq_none h] at h4
        have h5 := hlr e.on hes
        have h6 : lr.getD e.on true = true := by
          have : e.on < lr.size := by rw [inv'.size]; exact hes
          simpa [this] using h4
        rw [h6] at h5
        split at h5
        · cases h5
        · have : e.on < listed.size := by rw [inv.size]; exact hes
          simpa [this] using h5.symm
    have hne : Region.ready md l.toArray lr ≠ [] ∧ ∀ j ∈ Region.ready md l.toArray lr, j < n := by
      by_cases hex : ∃ x ∈ A, bl x.op = none
      · obtain ⟨x, hx, hb⟩ := hex
        have hr := hrem x hx hb
        refine ⟨fun h => (by rw [h] at hr; cases hr), fun j hj => ?_⟩
        rcases Nat.lt_or_ge j n with h | h
        · exact h
        · exact absurd hj (tail_waits hs hc hn inv' _ x.op rfl (hA' x hx).1 (mem_ready.1 hr).1 j h)
      · have hno : ∀ x ∈ A, bl x.op ≠ none := fun x hx hb => hex ⟨x, hx, hb⟩
        have hfl : (A.filter fun x => (bl x.op).isNone).length = 0 := by
          rw [List.length_eq_zero_iff, List.filter_eq_nil_iff]
          intro x hx h
          exact hno x hx (Option.isNone_iff_eq_none.1 h)
        have hsame : lr = listed := by
          apply Array.ext (by rw [inv.size, inv'.size])
          intro j hj1 hj2
          have h3 := hlr j (by rw [← inv'.size]; exact hj1)
          rw [if_neg (by
            intro hx
            obtain ⟨x, hx1, hx2⟩ := List.any_eq_true.1 hx
            simp only [Bool.and_eq_true] at hx2
            exact hno x hx1 (Option.isNone_iff_eq_none.1 hx2.2))] at h3
          simpa [hj1, hj2] using h3
        obtain ⟨f', rfl⟩ : ∃ f', f = f' + 1 := ⟨f - 1, by omega⟩
        have h1 := H w (Rb.refl _)
        rw [hsame]
        exact ⟨h1.1, fun j hj => (h1.2 j hj).1⟩
    rw [show k + 1 + g = (k + g) + 1 by omega]
    refine ⟨fun h => absurd h hne.1, fun j hj => ?_⟩
    have hjn := hne.2 j hj
    by_cases hjA : ∃ x ∈ A, x.op = j ∧ bl x.op = none
    · -- a box is laid
      obtain ⟨x, hx, rfl, hb⟩ := hjA
      obtain ⟨h1, ⟨o, ho, hd, hg, ha⟩, _⟩ := hA' x hx
      have ho' : l[x.op]? = some o := by simpa using ho
      unfold wpOp
      simp only [ho]
      have hwant : Region.wanted o (yielded l.toArray (acts A bl a).tmps) = true := by unfold Region.wanted; rw [hg]
      rw [if_pos hwant]
      refine .inl ?_
      unfold Oper.wp
      rw [hrun x hx o ho']
      simp only [Oper.upon]
      rw [hd, acts_put bl w.heap.size x A a hx hop hdst hb]
      have hR : Rb w (w.alloc (.cells x.cs x.ty)) := (Below.refl _ _).alloc (Nat.le_refl _) _
      refine ih f (upd bl x.op w.heap.size) listed _ a _ ?_ inv (inv'.set hj hjn) ?_ hAl (hG.lay hw x (fun y hy e => uniq x hx y hy e)) (hw.tr hR) (fun w1 hw1 => H w1 (hR.tr hw1))
      · have hcount : ∀ (B : List Lay), (B.map Lay.op).Nodup → x ∈ B → (B.filter fun y => (bl y.op).isNone).length = (B.filter fun y => (upd bl x.op w.heap.size y.op).isNone).length + 1 := by
          intro B
          induction B with
          | nil => intro _ h; cases h
          | cons z B ihB =>
            intro hnd hxB
            rw [List.map_cons, List.nodup_cons] at hnd
            by_cases hzx : z.op = x.op
            · have hxn : ∀ y ∈ B, y.op ≠ x.op := fun y hy e => hnd.1 (by rw [hzx, ← e]; exact List.mem_map_of_mem hy)
              have e1 : (upd bl x.op w.heap.size z.op).isNone = false := by unfold upd; rw [if_pos hzx]; rfl
              have e2 : (bl z.op).isNone = true := by rw [hzx, hb]; rfl
              have e3 : (B.filter fun y => (bl y.op).isNone) = B.filter fun y => (upd bl x.op w.heap.size y.op).isNone := by
                apply List.filter_congr
                intro y hy
                unfold upd
                rw [if_neg (hxn y hy)]
              rw [List.filter_cons, List.filter_cons, e1, e2, e3]
              rfl
            · have hxB' : x ∈ B := by
                rcases List.mem_cons.1 hxB with e | h
                · subst e; exact absurd rfl hzx
                · exact h
              have e1 : (upd bl x.op w.heap.size z.op).isNone = (bl z.op).isNone := by unfold upd; rw [if_neg hzx]
              rw [List.filter_cons, List.filter_cons, e1]
              split
              · rw [List.length_cons, List.length_cons, ihB hnd.2 hxB']
              · exact ihB hnd.2 hxB'
        have := hcount A hop hx
        omega
      · intro i hi
        have hxs : x.op < lr.size := by rw [inv'.size]; exact (Array.getElem?_eq_some_iff.1 ho).1
        by_cases hix : i = x.op
        · subst hix
          rw [if_neg (by
            intro hy
            obtain ⟨y, hy1, hy2⟩ := List.any_eq_true.1 hy
            simp only [Bool.and_eq_true, decide_eq_true_eq] at hy2
            have := hy2.2
            unfold upd at this
            rw [if_pos hy2.1] at this
            cases this)]
          have h5 := hAl x hx
          have : x.op < listed.size := by rw [inv.size]; exact hi
          simp [this] at h5
          simp [hxs, this, h5]
        · rw [getD_set_ne true (Ne.symm hix), hlr i hi]
          congr 1
          refine propext ⟨fun h => ?_, fun h => ?_⟩
          · obtain ⟨y, hy1, hy2⟩ := List.any_eq_true.1 h
            simp only [Bool.and_eq_true, decide_eq_true_eq] at hy2
            refine List.any_eq_true.2 ⟨y, hy1, ?_⟩
            simp only [Bool.and_eq_true, decide_eq_true_eq]
            refine ⟨hy2.1, ?_⟩
            unfold upd
            rw [if_neg (fun e => hix (hy2.1.symm.trans e))]
            exact hy2.2
          · obtain ⟨y, hy1, hy2⟩ := List.any_eq_true.1 h
            simp only [Bool.and_eq_true, decide_eq_true_eq] at hy2
            refine List.any_eq_true.2 ⟨y, hy1, ?_⟩
            simp only [Bool.and_eq_true, decide_eq_true_eq]
            refine ⟨hy2.1, ?_⟩
            have := hy2.2
            unfold upd at this
            rw [if_neg (fun e => hix (hy2.1.symm.trans e))] at this
            exact this
    · -- another one
      have hno : ∀ x ∈ A, bl x.op = none → x.op ≠ j := fun x hx hb e => hjA ⟨x, hx, e, hb⟩
      have hj' := hsub j hj hno
      have hnA : ∀ x ∈ A, x.op ≠ j := fun x hx e => by
        have h5 := hAl x hx
        rw [e, getD_both (mem_ready.1 hj').1] at h5
        cases h5
      obtain ⟨hjun, oj, hoj, hall⟩ := mem_ready.1 hj'
      cases f with
      | zero =>
        obtain ⟨h1, _⟩ := H w (Rb.refl _)
        have := seqB_ready h1 j hj'
        omega
      | succ f =>
        have h1 := ((H w (Rb.refl _)).2 j hj').2
        have h2 := wpOp_acts (P := P) hoj (fun cs b => Region.noSelect_spec hsel j oj cs b hoj) hQ bl A (fun x hx => by
          obtain ⟨y1, y2, _⟩ := (hA' x hx).2.2 j oj hoj hjn hnA
          exact ⟨y1, y2⟩) h1
        refine wpOp_mono (fun a' w' ⟨a'', h3, h4, h5⟩ => ?_) h2
        subst h3
        refine ih f bl _ _ a'' w' (by omega) (inv.set hj' hjn) (inv'.set hj hjn) ?_ (fun x hx => getD_set_true (hAl x hx)) (hG.mono h4) (hw.tr h4) h5
        intro i hi
        by_cases hij : i = j
        · subst hij
          have e1 : i < lr.size := by rw [inv'.size]; exact hi
          have e2 : i < listed.size := by rw [inv.size]; exact hi
          rw [if_neg (by
            intro hy
            obtain ⟨y, hy1, hy2⟩ := List.any_eq_true.1 hy
            simp only [Bool.and_eq_true, decide_eq_true_eq] at hy2
            exact hnA y hy1 hy2.1)]
          simp [e1, e2]
        · rw [getD_set_ne true (Ne.symm hij), getD_set_ne true (Ne.symm hij)]
          exact hlr i hi
theorem getD_any {l : Array Bool} {j : Nat} (h : j < l.size) (a b : Bool) : l.getD j a = l.getD j b := by simp [h]
def startL (size : Nat) (A : List Lay) : Array Bool := A.foldl (fun l x => l.setIfInBounds x.op true) (Array.replicate size false)
def layHeldB (md : Region.Mode) (ops : Array Oper) (n : Nat) (A : List Lay) (r : List (Bool × Nat)) : Bool :=
  Region.noSelect ops && decide (n < ops.size) && Region.sinkB md ops n && Region.chainB md ops n && layB md ops n A && decide (r.length + A.length = n) &&
  decide ((A.map Lay.op).Nodup) && decide ((A.map Lay.dst).Nodup) && decide ((startL ops.size A).size = ops.size) && (List.range ops.size).all (fun j => (startL ops.size A).getD j true == A.any fun x => decide (x.op = j)) &&
  heldHead md ops n (ops.size - n) r (startL ops.size A)
theorem lay_any {a : Act} {w : World} {l : List Oper} (n : Nat) (r : List (Bool × Nat)) (A : List Lay) (hB : layHeldB .any l.toArray n A r = true)
    (hrun : ∀ x ∈ A, ∀ o, l[x.op]? = some o → ∀ ρ w, (execOp ρ o).run P w = .ok (.value (.pointer (some ⟨w.heap.size, 0, none⟩))) (w.alloc (.cells x.cs x.ty)))
    (h : ∀ w1, Rb w.drew w1 → wpHeldR P l.toArray (NoPanic Q) w.drew (fun a' w' => ∀ bl w1, Rb w' w1 → (∀ x ∈ A, (bl x.op).isSome = true) → Good A w.drew bl w1 → wpList P l.toArray (NoPanic Q) (l.drop n) (acts A bl a') w1) (pick l r) a w1) :
    wpAny P .any l.toArray (NoPanic Q) l.toArray.size (Array.replicate l.toArray.size false) a w.drew := by
  simp only [layHeldB, Bool.and_eq_true, decide_eq_true_eq] at hB
  obtain ⟨⟨⟨⟨⟨⟨⟨⟨⟨⟨hsel, hn⟩, hs⟩, hc⟩, hA⟩, hlen⟩, hop⟩, hdst⟩, hsz⟩, hst⟩, hhd⟩ := hB
  have hdl : (l.drop n).length = l.toArray.size - n := by simp
  have hst' : ∀ j, j < l.toArray.size → (startL l.toArray.size A).getD j true = A.any fun x => decide (x.op = j) := fun j hj => by
    have := List.all_eq_true.1 hst j (List.mem_range.2 hj)
    simpa using this
  have hA1 : ∀ x ∈ A, x.op < n ∧ ∃ o, l.toArray[x.op]? = some o ∧ ∀ e ∈ o.after, Region.binds .any e = false := fun x hx => by
    have h := List.all_eq_true.1 hA x hx
    simp only [Bool.and_eq_true, decide_eq_true_eq] at h
    obtain ⟨⟨h1, h2⟩, h3⟩ := h
    refine ⟨h1, ?_⟩
    split at h2
    · rename_i o ho
      simp only [Bool.and_eq_true] at h2
      refine ⟨o, ho, fun e he => ?_⟩
      have := Array.all_eq_true_iff_forall_mem.1 h2.2 e he
      simpa using this
    · cases h2
  have inv : HeadInv .any l.toArray n (startL l.toArray.size A) := by
    refine ⟨hsz, fun j oj hj hl e he hb => ?_, fun t ht ht' => ?_⟩
    · have hjs := (Array.getElem?_eq_some_iff.1 hj).1
      have h1 : (startL l.toArray.size A).getD j true = true := by
        have hj1 : j < (startL l.toArray.size A).size := by rw [hsz]; exact hjs
        rw [getD_any hj1 true false]; exact hl
      rw [hst' j hjs] at h1
      obtain ⟨x, hx, hxj⟩ := List.any_eq_true.1 h1
      obtain ⟨_, o, ho, hno⟩ := hA1 x hx
      have e1 : x.op = j := of_decide_eq_true hxj
      rw [e1] at ho
      have e2 : oj = o := Option.some.inj (hj.symm.trans ho)
      subst e2
      rw [hno e he] at hb
      cases hb
    · rw [hst' t ht']
      refine Bool.eq_false_iff.2 fun hx => ?_
      obtain ⟨x, hx, hxt⟩ := List.any_eq_true.1 hx
      have := (hA1 x hx).1
      have e1 : x.op = t := of_decide_eq_true hxt
      omega
  have inv' : HeadInv .any l.toArray n (Array.replicate l.toArray.size false) :=
    ⟨by simp, fun j oj _ hl => (by rw [getD_replicate_false] at hl; cases hl), fun t _ ht => getD_in (by simpa using ht) (getD_replicate_false _ _)⟩
  have H := real_of (P := P) (Q := NoPanic Q) (md := .any) (g := l.toArray.size - n) (w0 := w.drew) (A := A)
    (Lq := fun a' w' => wpList P l.toArray (NoPanic Q) (l.drop n) a' w') (fun _ _ _ _ _ h => h) hsel hs hc hn hA hop hdst hrun
    (fun listed a' w' h1 h2 => by
      have := wpAny_of_seq (P := P) (md := .any) (Q' := NoPanic Q) (l.drop n) n listed a' w' (fun j => by simp [List.getElem?_drop]) (by rw [hdl]; exact h1) h2
      rwa [hdl] at this)
    n r.length (fun _ => none) (startL l.toArray.size A) (Array.replicate l.toArray.size false) a w.drew
    (by
      have e : (A.filter fun x => (none : Option Nat).isNone) = A := List.filter_eq_self.2 (fun _ _ => rfl)
      rw [e]; exact hlen.symm) inv inv'
    (fun j hj => by
      have e : (A.any fun x => decide (x.op = j) && (none : Option Nat).isNone) = A.any fun x => decide (x.op = j) := by congr 1; funext x; simp
      rw [e, hst' j hj]
      have : (Array.replicate l.toArray.size false).getD j true = false := getD_in (by simpa using hj) (getD_replicate_false _ _)
      rw [this]
      split
      · rfl
      · rename_i hx; exact (Bool.eq_false_iff.2 hx).symm)
    (fun x hx => by
      have h1 := hA1 x hx
      obtain ⟨o, ho, _⟩ := h1.2
      have hxs := (Array.getElem?_eq_some_iff.1 ho).1
      have h2 := hst' x.op hxs
      have h3 : (A.any fun y => decide (y.op = x.op)) = true := List.any_eq_true.2 ⟨x, hx, by simp⟩
      rw [h3] at h2
      have hj1 : x.op < (startL l.toArray.size A).size := by rw [hsz]; exact hxs
      rw [getD_any hj1 false true]; exact h2)
    ⟨(fun _ _ _ h => by cases h), (fun _ _ _ _ _ _ h => by cases h)⟩ (Rb.refl _)
    (fun w1 hw1 => wpAnyR_held (fun _ _ _ _ _ h => h) hsel hs hc hn r _ a w1 inv hhd hw1 (fun w2 hw2 => h w2 (hw1.tr hw2)))
  have e : acts A (fun _ => none) a = a := by
    have : ∀ (B : List Lay) (a : Act), acts B (fun _ => none) a = a := by
      intro B
      induction B with
      | nil => intro a; rfl
      | cons x B ih => intro a; show acts B _ (act1 _ x a) = a; rw [act1_none rfl]; exact ih a
    exact this A a
  rw [e, show n + (l.toArray.size - n) = l.toArray.size by omega] at H
  exact H
theorem wp_region_lay {id : Nat} {a : Act} {w : World} {l : List Oper} (n : Nat) (r : List (Bool × Nat)) (A : List Lay) (hm : P.follows .mixedOrders = true) (hB : layHeldB .any l.toArray n A r = true)
    (hrun : ∀ x ∈ A, ∀ o, l[x.op]? = some o → ∀ ρ w, (execOp ρ o).run P w = .ok (.value (.pointer (some ⟨w.heap.size, 0, none⟩))) (w.alloc (.cells x.cs x.ty)))
    (h : ∀ w1, Rb w.drew w1 → wpHeldR P l.toArray (NoPanic Q) w.drew (fun a' w' => ∀ bl w1, Rb w' w1 → (∀ x ∈ A, (bl x.op).isSome = true) → Good A w.drew bl w1 → wpList P l.toArray (NoPanic Q) (l.drop n) (acts A bl a') w1) (pick l r) a w1) :
    (Code.region id l.toArray true).wp P Q a w :=
  wp_region_noPanic (wp_region_any hm (lay_any n r A hB hrun h))
theorem heldR_quiet {w0 : World} {L : Act → World → Prop} {o : Oper} {l : List (Bool × Oper)} {a : Act} {w : World} {v : Value} (hw : Region.wanted o (yielded ops a.tmps) = true) (hy : ∀ w, Rb w0 w → (execOp a.eval o).run P w = .ok (.value v) w)
    (h : wpHeldR P ops Q w0 L l (a.put o.dst v) w) : wpHeldR P ops Q w0 L ((true, o) :: l) a w := ⟨v, Or.inl ⟨hw, hy⟩, h⟩
theorem heldR_skip {w0 : World} {L : Act → World → Prop} {o : Oper} {l : List (Bool × Oper)} {a : Act} {w : World} (hw : Region.wanted o (yielded ops a.tmps) = false)
    (h : wpHeldR P ops Q w0 L l (a.put o.dst undef) w) : wpHeldR P ops Q w0 L ((true, o) :: l) a w := ⟨undef, Or.inr ⟨hw, rfl⟩, h⟩
theorem heldR_loud {w0 : World} {L : Act → World → Prop} {o : Oper} {l : List (Bool × Oper)} {a : Act} {w : World}
    (h : ∀ K : Act → World → Prop, Shut (∀ a w', Rb w w' → (∀ w1, Rb w' w1 → wpHeldR P ops Q w0 L l a w1) → K a w') → if Region.wanted o (yielded ops a.tmps) = true then Oper.wp P o a w K Q else K (a.put o.dst undef) w) : wpHeldR P ops Q w0 L ((false, o) :: l) a w := h
theorem heldR_nil {w0 : World} {L : Act → World → Prop} {a : Act} {w : World} (h : L a w) : wpHeldR P ops Q w0 L [] a w := h
/-- a box that lies, told whole -/
theorem obj_cells {W : World} {b : Nat} {cs : Array Value} {T : TypeId} (h : W.heap[b]? = some (.cells cs T)) : b < W.heap.size ∧ (∀ i, W.cell? ⟨b, i, none⟩ = cs[i]?) ∧ ∀ i, W.frozen? ⟨b, i, none⟩ = false := by
  refine ⟨(Array.getElem?_eq_some_iff.1 h).1, fun i => ?_, fun i => ?_⟩
  · show (match W.heap[b]? with | some (.cells c _ _) => if (none : Option Nat).isSome then none else c[i]? | _ => none) = _
    rw [h]; rfl
  · show (match W.heap[b]? with | some (.cells _ _ (lo, hi)) => decide (lo ≤ i) && decide (i < hi) | _ => false) = _
    rw [h]; simp
end
end Alg
end
section
open Go Go.RowKit
namespace Alg
/-- an operation that also waits for others -/
def upE (E : List (Nat × Nat)) (j : Nat) (o : Oper) : Oper := { o with after := o.after ++ ((E.filter fun e => decide (e.1 = j)).map fun e => (⟨e.2, .data⟩ : Edge)).toArray }
/-- the operations, with edges added: (t, i): t waits for i -/
def addE (E : List (Nat × Nat)) (l : List Oper) : List Oper := l.mapIdx fun j o => upE E j o
theorem addE_get (E : List (Nat × Nat)) (l : List Oper) (j : Nat) : (addE E l)[j]? = (l[j]?).map (upE E j) := by
  unfold addE; rw [List.getElem?_mapIdx]
theorem addE_len (E : List (Nat × Nat)) (l : List Oper) : (addE E l).length = l.length := by unfold addE; simp
theorem addE_arr (E : List (Nat × Nat)) (l : List Oper) (j : Nat) : (addE E l).toArray[j]? = (l.toArray[j]?).map (upE E j) := by
  have := addE_get E l j
  simpa using this
theorem addE_yielded (E : List (Nat × Nat)) (l : List Oper) (t : Array Value) : yielded (addE E l).toArray t = yielded l.toArray t := by
  funext j
  unfold yielded
  rw [addE_arr]
  cases l.toArray[j]? <;> rfl
theorem upE_wanted (E : List (Nat × Nat)) (j : Nat) (o : Oper) (y : Nat → Option Bool) : Region.wanted (upE E j o) y = Region.wanted o y := rfl
theorem upE_exec (E : List (Nat × Nat)) (j : Nat) (o : Oper) (ρ : Operand → Value) : execOp ρ (upE E j o) = execOp ρ o := rfl
theorem upE_wp (E : List (Nat × Nat)) (j : Nat) (o : Oper) (P : Program) (a : Act) (w : World) (K : Act → World → Prop) (Q : Exit → Act → World → Prop) : Oper.wp P (upE E j o) a w K Q = Oper.wp P o a w K Q := rfl
theorem upE_asks (E : List (Nat × Nat)) (j : Nat) (o : Oper) (P : Program) (a : Act) (w : World) : Oper.asks P (upE E j o) a w = Oper.asks P o a w := rfl
section
variable {P : Program} {Q : Exit → Act → World → Prop} {md : Region.Mode} {l : List Oper}
theorem wpOp_addE (E : List (Nat × Nat)) (j : Nat) (K : Act → World → Prop) (a : Act) (w : World) : wpOp P (addE E l).toArray Q j K a w = wpOp P l.toArray Q j K a w := by
  unfold wpOp
  rw [addE_arr, addE_yielded]
  cases l.toArray[j]? <;> rfl
theorem after_up {E : List (Nat × Nat)} {j : Nat} {o : Oper} {e : Edge} (h : e ∈ (upE E j o).after) : e ∈ o.after ∨ (j, e.on) ∈ E := by
  unfold upE at h
  rcases Array.mem_append.1 h with h | h
  · exact .inl h
  · right
    rw [List.mem_toArray] at h
    obtain ⟨x, hx, rfl⟩ := List.mem_map.1 h
    obtain ⟨h1, h2⟩ := List.mem_filter.1 hx
    have h3 : x.1 = j := of_decide_eq_true h2
    rw [← h3]; exact h1
theorem up_after {E : List (Nat × Nat)} {j : Nat} {o : Oper} {e : Edge} (h : e ∈ o.after) : e ∈ (upE E j o).after := Array.mem_append.2 (.inl h)
theorem up_edge {E : List (Nat × Nat)} {j i : Nat} {o : Oper} (h : (j, i) ∈ E) : (⟨i, .data⟩ : Edge) ∈ (upE E j o).after := by
  refine Array.mem_append.2 (.inr ?_)
  rw [List.mem_toArray]
  exact List.mem_map.2 ⟨(j, i), List.mem_filter.2 ⟨h, by simp⟩, rfl⟩
/-- what one waits for -/
def ancL (md : Region.Mode) (l : List Oper) (i : Nat) : Array Bool := ((List.range l.length).map fun j => (ancs md l.toArray i).contains j).toArray
theorem ancL_get {md : Region.Mode} {l : List Oper} {i j : Nat} (hj : j < l.length) : (ancL md l i).getD j true = (ancs md l.toArray i).contains j := by
  unfold ancL
  simp [hj]
/-- the edges serve: each leads to an operation that takes a component, that waits for nothing that the other one would not wait for, and that is apart from all that do not wait for it -/
def edgeB (md : Region.Mode) (l : List Oper) (E : List (Nat × Nat)) : Bool :=
  Region.noSelect l.toArray && E.all fun x => decide (x.1 < l.length) && !(E.any fun y => decide (y.1 = x.2)) && Region.free md l.toArray (ancL md l x.2) x.2 &&
    (match l[x.2]? with
      | some o => (match o.op with | .extract .. => true | _ => false) && o.after.all fun e => !Region.binds md e || ((ancs md l.toArray x.1).contains e.on && decide (e.on ≠ x.1))
      | none => false)
theorem extract_yields {ops : Array Oper} {i : Nat} {o : Oper} {x : Operand} {ix : Nat} (ho : ops[i]? = some o) (hop : o.op = .extract x ix) {K : Act → World → Prop} {a : Act} {w : World}
    (h : wpOp P ops Q i K a w) : ∃ v, Yields P ops o v a ∧ K (a.put o.dst v) w := by
  unfold wpOp at h
  simp only [ho] at h
  have hex : execOp a.eval o = (do pure (.value (← Instr.extract (a.eval x) ix))) := by unfold execOp; rw [hop]
  by_cases hw : Region.wanted o (yielded ops a.tmps) = true
  · rw [if_pos hw] at h
    unfold Oper.wp Oper.asks at h
    rw [hex] at h
    have none : ((do pure (Next.value (← Instr.extract (a.eval x) ix)) : Sem Next).runT P w #[]).2 = #[] := by
      unfold Instr.extract
      split
      · split <;> rfl
      · rfl
    have key : (∃ v, ∀ w', (do pure (Next.value (← Instr.extract (a.eval x) ix)) : Sem Next).run P w' = .ok (.value v) w') ∨
        (∀ K', o.upon P a K' Q ((do pure (Next.value (← Instr.extract (a.eval x) ix)) : Sem Next).run P w) = False) := by
      unfold Instr.extract
      split
      · rename_i vs hv
        split
        · rename_i v hvi
          exact .inl ⟨v, fun w' => rfl⟩
        · exact .inr fun K' => rfl
      · exact .inr fun K' => rfl
    rcases h with h | h
    · rcases key with ⟨v, hv⟩ | h1
      · refine ⟨v, .inl ⟨hw, fun w' => by rw [hex]; exact hv w'⟩, ?_⟩
        rw [hv w] at h; exact h
      · rw [h1] at h; exact h.elim
    · rw [none] at h
      simp at h
  · rw [if_neg hw] at h
    exact ⟨undef, .inr ⟨by simpa using hw, rfl⟩, h⟩
theorem wpAny_addE {E : List (Nat × Nat)} (hE : edgeB md l E = true) (hQ : ∀ c a (d : Option Tmp) v w, Q (.panic c) (a.put d v) w → Q (.panic c) a w) :
    ∀ (f : Nat) (listed : Array Bool) (a : Act) (w : World), CInv md l.toArray listed → wpAny P md (addE E l).toArray Q f listed a w → wpAny P md l.toArray Q f listed a w := by
  unfold edgeB at hE
  rw [Bool.and_eq_true] at hE
  obtain ⟨hsel, hE⟩ := hE
  -- what the check says of an edge
  have spec : ∀ t i, (t, i) ∈ E → t < l.length ∧ (∀ y ∈ E, y.1 ≠ i) ∧ ∃ o x ix, l.toArray[i]? = some o ∧ o.op = .extract x ix ∧ Region.free md l.toArray (ancL md l i) i = true ∧
      ∀ e ∈ o.after, Region.binds md e = true → Anc md l.toArray t e.on ∧ e.on ≠ t := by
    intro t i hti
    have h := List.all_eq_true.1 hE (t, i) hti
    simp only [Bool.and_eq_true, decide_eq_true_eq] at h
    obtain ⟨⟨⟨h1, h2⟩, h3⟩, h4⟩ := h
    refine ⟨h1, fun y hy e => ?_, ?_⟩
    · have : (E.any fun y => decide (y.1 = i)) = true := List.any_eq_true.2 ⟨y, hy, by simpa using e⟩
      rw [this] at h2; cases h2
    · split at h4
      · rename_i o ho
        rw [Bool.and_eq_true] at h4
        obtain ⟨h5, h6⟩ := h4
        split at h5
        · rename_i x ix hop
          refine ⟨o, x, ix, by simpa using ho, hop, h3, fun e he hb => ?_⟩
          have := Array.all_eq_true_iff_forall_mem.1 h6 e he
          rw [hb] at this
          simp only [Bool.not_true, Bool.false_or, Bool.and_eq_true, decide_eq_true_eq] at this
          exact ⟨ancs_spec this.1, this.2⟩
        · cases h5
      · cases h4
  -- one that would be held up by an edge: the other one is ready
  have held : ∀ (listed : Array Bool), CInv md l.toArray listed → ∀ t i, (t, i) ∈ E → t ∈ Region.ready md l.toArray listed → listed.getD i false = false → i ∈ Region.ready md l.toArray listed := by
    intro listed inv t i hti ht hi
    obtain ⟨htl, _, o, x, ix, ho, _, _, hanc⟩ := spec t i hti
    rw [mem_ready]
    have his : i < listed.size := by rw [inv.size]; exact (Array.getElem?_eq_some_iff.1 ho).1
    refine ⟨getD_in his hi, o, ho, fun e he hb => ?_⟩
    obtain ⟨h1, h2⟩ := hanc e he hb
    have hts : t < listed.size := by rw [inv.size]; simpa using htl
    have h3 := h1.listed (inv.set ht) (by simp [hts])
    rw [getD_set_ne false (Ne.symm h2)] at h3
    exact h3
  -- ready with the edges is ready without
  have sub : ∀ (listed : Array Bool) j, j ∈ Region.ready md (addE E l).toArray listed → j ∈ Region.ready md l.toArray listed := by
    intro listed j hj
    rw [mem_ready] at *
    obtain ⟨h0, o', ho', hall⟩ := hj
    rw [addE_arr] at ho'
    cases ho : l.toArray[j]? with
    | none => rw [ho] at ho'; cases ho'
    | some o =>
      rw [ho] at ho'
      obtain rfl : upE E j o = o' := Option.some.inj ho'
      exact ⟨h0, o, rfl, fun e he hb => hall e (up_after he) hb⟩
  have sup : ∀ (listed : Array Bool) j, j ∈ Region.ready md l.toArray listed → (∀ i, (j, i) ∈ E → listed.getD i false = true) → j ∈ Region.ready md (addE E l).toArray listed := by
    intro listed j hj hi
    rw [mem_ready] at *
    obtain ⟨h0, o, ho, hall⟩ := hj
    refine ⟨h0, upE E j o, by rw [addE_arr, ho]; rfl, fun e he hb => ?_⟩
    rcases after_up he with h | h
    · exact hall e h hb
    · exact hi _ h
  intro f
  induction f with
  | zero =>
    intro listed a w inv h
    refine ⟨?_, h.2⟩
    refine List.eq_nil_iff_forall_not_mem.2 fun j hj => ?_
    have hno : ∀ i, i ∉ Region.ready md (addE E l).toArray listed := fun i hi => by rw [h.1] at hi; cases hi
    refine hno j (sup listed j hj fun i hji => ?_)
    cases hc : listed.getD i false with
    | true => rfl
    | false => exact absurd (sup listed i (held listed inv j i hji hj hc) fun k hk => absurd rfl ((spec j i hji).2.1 _ hk)) (hno i)
  | succ f ih =>
    intro listed a w inv h
    by_cases hex : ∃ t i, (t, i) ∈ E ∧ i ∈ Region.ready md l.toArray listed
    · obtain ⟨t, i, hti, hi⟩ := hex
      obtain ⟨_, hnt, o, x, ix, ho, hop, hfree, _⟩ := spec t i hti
      have hi' := sup listed i hi fun k hk => absurd rfl (hnt _ hk)
      have h1 := h.2 i hi'
      rw [wpOp_addE] at h1
      obtain ⟨v, hy, h2⟩ := extract_yields ho hop h1
      refine wpAny_first ho (Region.noSelect_spec hsel) (fun c a w => hQ c a _ _ w) f listed a w (fun j oj hj hne hun hno => ?_) hi hy (ih _ _ _ (inv.set hi) h2)
      refine Region.free_spec ho hfree j oj hj hne ?_ hno
      have hjl : j < l.length := by simpa using (Array.getElem?_eq_some_iff.1 hj).1
      rw [ancL_get hjl]
      cases hc : (ancs md l.toArray i).contains j with
      | false => rfl
      | true =>
        have his : i < listed.size := by rw [inv.size]; exact (Array.getElem?_eq_some_iff.1 ho).1
        have h3 := (ancs_spec hc).listed (inv.set hi) (by simp [his])
        rw [getD_set_ne false (Ne.symm hne), getD_both hun] at h3
        cases h3
    · have same : ∀ j, j ∈ Region.ready md l.toArray listed → j ∈ Region.ready md (addE E l).toArray listed := fun j hj => sup listed j hj fun i hji => by
        cases hc : listed.getD i false with
        | true => rfl
        | false => exact absurd ⟨j, i, hji, held listed inv j i hji hj hc⟩ hex
      refine ⟨fun h0 => h.1 (List.eq_nil_iff_forall_not_mem.2 fun j hj => by have := sub listed j hj; rw [h0] at this; cases this), fun j hj => ?_⟩
      have h1 := h.2 j (same j hj)
      rw [wpOp_addE] at h1
      exact wpOp_mono (fun a' w' h2 => ih _ a' w' (inv.set hj) h2) h1
theorem yieldsIf_addE (E : List (Nat × Nat)) (S : World → Prop) (j : Nat) (o : Oper) (v : Value) (a : Act) : YieldsIf P (addE E l).toArray S (upE E j o) v a = YieldsIf P l.toArray S o v a := by
  unfold YieldsIf; rw [addE_yielded]; rfl
theorem wpHeldR_addE {E : List (Nat × Nat)} {w0 : World} {L L' : Act → World → Prop} (hL : ∀ a w, L a w → L' a w) :
    ∀ (r : List (Bool × Nat)) (a : Act) (w : World), wpHeldR P l.toArray Q w0 L (pick l r) a w → wpHeldR P (addE E l).toArray Q w0 L' (pick (addE E l) r) a w
  | [], a, w, h => hL a w h
  | (b, i) :: r, a, w, h => by
    unfold pick at h ⊢
    rw [addE_get]
    cases ho : l[i]? with
    | none => rw [ho] at h; exact wpHeldR_addE hL r a w h
    | some o =>
      rw [ho] at h
      cases b with
      | true =>
        obtain ⟨v, hy, hk⟩ := h
        exact ⟨v, by rw [yieldsIf_addE]; exact hy, wpHeldR_addE hL r _ _ hk⟩
      | false =>
        intro K hK
        rw [upE_wanted, addE_yielded, upE_wp]
        exact h K (fun a w' hR hW => hK a w' hR (fun w1 hw1 => wpHeldR_addE hL r a w1 (hW w1 hw1)))
def upL (E : List (Nat × Nat)) : Nat → List Oper → List Oper
  | _, [] => []
  | k, o :: m => upE E k o :: upL E (k + 1) m
theorem upL_get (E : List (Nat × Nat)) : ∀ (m : List Oper) (k j : Nat), (upL E k m)[j]? = (m[j]?).map (upE E (k + j))
  | [], _, _ => by simp [upL]
  | o :: m, k, 0 => by simp [upL]
  | o :: m, k, j + 1 => by
    simp only [upL, List.getElem?_cons_succ]
    rw [upL_get E m (k + 1) j, show k + 1 + j = k + (j + 1) by omega]
theorem addE_drop (E : List (Nat × Nat)) (n : Nat) : (addE E l).drop n = upL E n (l.drop n) := by
  apply List.ext_getElem?
  intro j
  rw [List.getElem?_drop, addE_get, upL_get, List.getElem?_drop]
theorem wpList_addE (E : List (Nat × Nat)) : ∀ (m : List Oper) (k : Nat) (a : Act) (w : World), wpList P l.toArray Q m a w → wpList P (addE E l).toArray Q (upL E k m) a w
  | [], _, _, _, h => h
  | o :: m, k, a, w, h => by
    unfold wpList at h
    unfold upL wpList
    rw [upE_wanted, addE_yielded]
    split
    · rename_i hw
      rw [if_pos hw] at h
      refine h.imp (fun h => ?_) id
      rw [upE_wp]
      exact Oper.wp_mono (fun a w h => wpList_addE E m (k + 1) a w h) h
    · rename_i hw
      rw [if_neg hw] at h
      exact wpList_addE E m (k + 1) _ w h
/-- the law of the boxes, at a region with edges added -/
theorem wp_region_layE {id : Nat} {a : Act} {w : World} (E : List (Nat × Nat)) (n : Nat) (r : List (Bool × Nat)) (A : List Lay) (hm : P.follows .mixedOrders = true) (hE : edgeB .any l E = true) (hB : layHeldB .any (addE E l).toArray n A r = true)
    (hrun : ∀ x ∈ A, ∀ o, l[x.op]? = some o → ∀ ρ w, (execOp ρ o).run P w = .ok (.value (.pointer (some ⟨w.heap.size, 0, none⟩))) (w.alloc (.cells x.cs x.ty)))
    (h : ∀ w1, Rb w.drew w1 → wpHeldR P l.toArray (NoPanic Q) w.drew (fun a' w' => ∀ bl w1, Rb w' w1 → (∀ x ∈ A, (bl x.op).isSome = true) → Good A w.drew bl w1 → wpList P l.toArray (NoPanic Q) (l.drop n) (acts A bl a') w1) (pick l r) a w1) :
    (Code.region id l.toArray true).wp P Q a w := by
  refine wp_region_noPanic (wp_region_any hm (wpAny_addE hE (fun _ _ _ _ _ h => h) _ _ _ _ CInv.start ?_))
  have H := lay_any (P := P) (Q := Q) (a := a) (w := w) (l := addE E l) n r A hB (fun x hx o ho ρ w => by
    rw [addE_get] at ho
    cases h1 : l[x.op]? with
    | none => rw [h1] at ho; cases ho
    | some o1 =>
      rw [h1] at ho
      obtain rfl : upE E x.op o1 = o := Option.some.inj ho
      exact hrun x hx o1 h1 ρ w) (fun w1 hw1 => wpHeldR_addE (fun a' w' hL bl w1 hR hb hG => by
      rw [addE_drop]
      exact wpList_addE E _ n _ _ (hL bl w1 hR hb hG)) r a w1 (h w1 hw1))
  have e : (addE E l).toArray.size = l.toArray.size := by simpa using addE_len E l
  rw [e] at H
  exact H
end
end Alg
end
