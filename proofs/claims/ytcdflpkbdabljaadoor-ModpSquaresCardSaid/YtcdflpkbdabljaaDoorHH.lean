/- A law for a region that draws its order: loads that are held by one condition on the world, calls that make memory, and a tail of operations in one forced order (stores, mostly) behind which the condition need not hold. A law for a region that draws its order: loads that are held by a condition on the world till a first store (number k) has come up, others that are held by a weaker one throughout; calls that make memory. The same law inside a fence (Derived/OrdersIn.lean), in a round of a loop over a function as well, where no operation is a defer statement. -/
import Derived.Test.YtcdflpkbdabljaaDoorW0
import Derived.StillTail
import Derived.OrdersIn
section
open Go
namespace Alg
section
variable {P : Program} {ops : Array Oper} {Q : Exit → Act → World → Prop} {md : Region.Mode} {S : World → Prop}
def wpAnyT (P : Program) (md : Region.Mode) (ops : Array Oper) (Q : Exit → Act → World → Prop) (S : World → Prop) (n : Nat) (L : Array Bool → Act → World → Prop) : Nat → Array Bool → Act → World → Prop
  | 0, listed, a, w => L listed a w
  | f + 1, listed, a, w =>
    Region.ready md ops listed ≠ [] ∧ ∀ i ∈ Region.ready md ops listed, i < n ∧ wpOp P ops Q i (fun a' w' => S w' ∧ wpAnyT P md ops Q S n L f (listed.setIfInBounds i true) a' w') a w
theorem wpAny_of_T {n g : Nat} {L : Array Bool → Act → World → Prop} (hL : ∀ listed a w, L listed a w → wpAny P md ops Q g listed a w) :
    ∀ (f : Nat) (listed : Array Bool) (a : Act) (w : World), wpAnyT P md ops Q S n L f listed a w → wpAny P md ops Q (f + g) listed a w
  | 0, listed, a, w, h => by rw [Nat.zero_add]; exact hL _ _ _ h
  | f + 1, listed, a, w, h => by
    rw [show f + 1 + g = (f + g) + 1 by omega]
    exact ⟨fun h0 => absurd h0 h.1, fun i hi => wpOp_mono (fun a' w' h' => wpAny_of_T hL f _ a' w' h'.2) (h.2 i hi).2⟩
theorem wpAnyT_first {n i : Nat} {oi : Oper} {v : Value} {L : Array Bool → Act → World → Prop} (hi : ops[i]? = some oi) (hsel : ∀ (j : Nat) (o : Oper) cs b, ops[j]? = some o → o.op ≠ .select cs b)
    (hQ : ∀ c a w, Q (.panic c) (a.put oi.dst v) w → Q (.panic c) a w)
    (hs : Region.sinkB md ops n = true) (hc : Region.chainB md ops n = true) (hn : n < ops.size) (hin : i < n)
    (hdone : ∀ listed a w, L listed a w → ∀ j ∈ Region.ready md ops listed, n ≤ j) :
    ∀ (f : Nat) (listed : Array Bool) (a : Act) (w : World), HeadInv md ops n listed →
      (∀ j oj, ops[j]? = some oj → j ≠ i → listed.getD j true = false → (∀ e ∈ oj.after, Region.binds md e = true → e.on ≠ i) → oi.apart ops oj = true) →
      i ∈ Region.ready md ops listed → YieldsIf P ops S oi v a → S w →
      wpAnyT P md ops Q S n L f (listed.setIfInBounds i true) (a.put oi.dst v) w → wpAnyT P md ops Q S n L (f + 1) listed a w := by
  intro f
  induction f with
  | zero =>
    intro listed a w inv _ hr hy hS H
    have hun := (mem_ready.1 hr).1
    refine ⟨fun h => (by rw [h] at hr; cases hr), fun j hj => ?_⟩
    have hjn : j < n := by
      rcases Nat.lt_or_ge j n with h | h
      · exact h
      · exact absurd hj (tail_waits hs hc hn inv _ i rfl hin hun j h)
    refine ⟨hjn, ?_⟩
    by_cases hji : j = i
    · subst hji; exact hy.wpOp hi hS ⟨hS, H⟩
    · have := hdone _ _ _ H j (ready_mono hj hji)
      omega
  | succ f ih =>
    intro listed a w inv hfree hr hy hS H
    have hun := (mem_ready.1 hr).1
    refine ⟨fun h => (by rw [h] at hr; cases hr), fun j hj => ?_⟩
    have hjn : j < n := by
      rcases Nat.lt_or_ge j n with h | h
      · exact h
      · exact absurd hj (tail_waits hs hc hn inv _ i rfl hin hun j h)
    refine ⟨hjn, ?_⟩
    by_cases hji : j = i
    · subst hji; exact hy.wpOp hi hS ⟨hS, H⟩
    · have h1 := (H.2 j (ready_mono hj hji)).2
      obtain ⟨hjun, oj, hoj, hall⟩ := mem_ready.1 hj
      have hnot : ∀ e ∈ oj.after, Region.binds md e = true → e.on ≠ i := fun e he hb heq => by
        have h1 := hall e he hb
        rw [heq, getD_both hun] at h1
        cases h1
      have h2 := wpOp_putIf hoj (hfree j oj hoj hji hjun hnot) (fun cs b => hsel i oi cs b hi) (fun cs b => hsel j oj cs b hoj) hQ hy h1
      have hfree' : ∀ k ok, ops[k]? = some ok → k ≠ i → (listed.setIfInBounds j true).getD k true = false →
          (∀ e ∈ ok.after, Region.binds md e = true → e.on ≠ i) → oi.apart ops ok = true := fun k ok hk hki hun hno => by
        refine hfree k ok hk hki ?_ hno
        by_cases hjk : j = k
        · subst hjk; exact hjun
        · rw [getD_set_ne true hjk] at hun; exact hun
      refine wpOp_mono (fun a' w' h3 => ⟨h3.2.1, ih (listed.setIfInBounds j true) a' w' (inv.set hj hjn) hfree' (ready_mono hr (Ne.symm hji)) h3.1 h3.2.1 ?_⟩) h2
      rw [Array.setIfInBounds_comm _ _ hji]
      exact h3.2.2
/-- one operation behind the other, in the order chosen: quiet ones (true) yield under S; behind each loud one S is shown anew -/
def wpHeld (P : Program) (ops : Array Oper) (Q : Exit → Act → World → Prop) (S : World → Prop) (L : Act → World → Prop) : List (Bool × Oper) → Act → World → Prop
  | [], a, w => L a w
  | (true, o) :: l, a, w => ∃ v, YieldsIf P ops S o v a ∧ wpHeld P ops Q S L l (a.put o.dst v) w
  | (false, o) :: l, a, w => ∀ K : Act → World → Prop, Shut (∀ a w, S w → (S w → wpHeld P ops Q S L l a w) → K a w) → if Region.wanted o (yielded ops a.tmps) = true then Oper.wp P o a w K Q else K (a.put o.dst undef) w
def pick (l : List Oper) : List (Bool × Nat) → List (Bool × Oper)
  | [] => []
  | (b, i) :: r => match l[i]? with
    | some o => (b, o) :: pick l r
    | none => pick l r
/-- the order chosen serves: a quiet one may come up and is apart from the others; a loud one is all that may come up; then the tail, one behind the other -/
def heldHead (md : Region.Mode) (ops : Array Oper) (n g : Nat) : List (Bool × Nat) → Array Bool → Bool
  | [], listed => Region.seqB md ops g n listed
  | (true, i) :: r, listed => decide (i < n) && (Region.ready md ops listed).contains i && Region.free md ops listed i && heldHead md ops n g r (listed.setIfInBounds i true)
  | (false, i) :: r, listed => decide (i < n) && decide (Region.ready md ops listed = [i]) && heldHead md ops n g r (listed.setIfInBounds i true)
def heldB (md : Region.Mode) (ops : Array Oper) (n : Nat) (r : List (Bool × Nat)) : Bool :=
  Region.noSelect ops && decide (n < ops.size) && Region.sinkB md ops n && Region.chainB md ops n && decide (r.length = n) && heldHead md ops n (ops.size - n) r (Array.replicate ops.size false)
theorem wpAnyT_held {l : List Oper} {n g : Nat} {Lq : Act → World → Prop} (hQ : ∀ c a (d : Option Tmp) v w, Q (.panic c) (a.put d v) w → Q (.panic c) a w)
    (hsel : Region.noSelect l.toArray = true) (hs : Region.sinkB md l.toArray n = true) (hc : Region.chainB md l.toArray n = true) (hn : n < l.toArray.size) :
    ∀ (r : List (Bool × Nat)) (listed : Array Bool) (a : Act) (w : World), HeadInv md l.toArray n listed → heldHead md l.toArray n g r listed = true → S w →
    wpHeld P l.toArray Q S Lq (pick l r) a w → wpAnyT P md l.toArray Q S n (fun listed' a' w' => Region.seqB md l.toArray g n listed' = true ∧ Lq a' w') r.length listed a w
  | [], listed, a, w, _, hB, _, h => ⟨hB, h⟩
  | (true, i) :: r, listed, a, w, inv, hB, hS, h => by
    simp only [heldHead, Bool.and_eq_true, decide_eq_true_eq] at hB
    obtain ⟨⟨⟨hin, hr⟩, hf⟩, hB'⟩ := hB
    have hr' : i ∈ Region.ready md l.toArray listed := by simpa using hr
    obtain ⟨_, o, ho, _⟩ := mem_ready.1 hr'
    have ho' : l[i]? = some o := by simpa using ho
    unfold pick at h
    simp only [ho'] at h
    obtain ⟨v, hy, hK⟩ := h
    exact wpAnyT_first ho (Region.noSelect_spec hsel) (fun c a w => hQ c a _ _ w) hs hc hn hin (fun listed' a' w' hL => seqB_ready hL.1) r.length listed a w inv (Region.free_spec ho hf) hr' hy hS
      (wpAnyT_held hQ hsel hs hc hn r _ _ w (inv.set hr' hin) hB' hS hK)
  | (false, i) :: r, listed, a, w, inv, hB, hS, h => by
    simp only [heldHead, Bool.and_eq_true, decide_eq_true_eq] at hB
    obtain ⟨⟨hin, hr⟩, hB'⟩ := hB
    have hr' : i ∈ Region.ready md l.toArray listed := by rw [hr]; simp
    obtain ⟨_, o, ho, _⟩ := mem_ready.1 hr'
    have ho' : l[i]? = some o := by simpa using ho
    unfold pick at h
    simp only [ho'] at h
    refine ⟨fun h0 => (by rw [hr] at h0; cases h0), fun j hj => ?_⟩
    rw [hr] at hj
    obtain rfl : j = i := by simpa using hj
    refine ⟨hin, wpOp_step ho (fun K' hK => h K' (fun a w hS2 hW => hK a w ⟨hS2, ?_⟩))⟩
    exact wpAnyT_held hQ hsel hs hc hn r _ _ w (inv.set hr' hin) hB' hS2 (hW hS2)
/-- the region: the head in the order chosen, then the tail -/
theorem wp_region_held_tail {id : Nat} {a : Act} {w : World} {l : List Oper} (n : Nat) (r : List (Bool × Nat)) (S : World → Prop) (hm : P.follows .mixedOrders = true) (hB : heldB .any l.toArray n r = true)
    (hQ : ∀ c a (d : Option Tmp) v w, Q (.panic c) (a.put d v) w → Q (.panic c) a w) (hS : S w.drew)
    (h : S w.drew → wpHeld P l.toArray Q S (fun a' w' => wpList P l.toArray Q (l.drop n) a' w') (pick l r) a w.drew) : (Code.region id l.toArray true).wp P Q a w := by
  simp only [heldB, Bool.and_eq_true, decide_eq_true_eq] at hB
  obtain ⟨⟨⟨⟨⟨hsel, hn⟩, hs⟩, hc⟩, hlen⟩, hlex⟩ := hB
  have hdl : (l.drop n).length = l.toArray.size - n := by simp
  have inv0 : HeadInv .any l.toArray n (Array.replicate l.toArray.size false) :=
    ⟨by simp, fun j oj _ hl => (by rw [getD_replicate_false] at hl; cases hl), fun t _ ht => getD_in (by simpa using ht) (getD_replicate_false _ _)⟩
  have H := wpAnyT_held (md := .any) (g := l.toArray.size - n) hQ hsel hs hc hn r _ a w.drew inv0 hlex hS (h hS)
  refine wp_region_any hm ?_
  have := wpAny_of_T (g := l.toArray.size - n) (fun listed a' w' hL => by
    have := wpAny_of_seq (md := .any) (Q' := Q) (l.drop n) n listed a' w' (fun j => by simp [List.getElem?_drop]) (by rw [hdl]; exact hL.1) hL.2
    rwa [hdl] at this) _ _ _ _ H
  rw [hlen, show n + (l.toArray.size - n) = l.toArray.size by omega] at this
  exact this
theorem held_quiet {L : Act → World → Prop} {o : Oper} {l : List (Bool × Oper)} {a : Act} {w : World} {v : Value} (hw : Region.wanted o (yielded ops a.tmps) = true) (hy : ∀ w, S w → (execOp a.eval o).run P w = .ok (.value v) w)
    (h : wpHeld P ops Q S L l (a.put o.dst v) w) : wpHeld P ops Q S L ((true, o) :: l) a w := ⟨v, Or.inl ⟨hw, hy⟩, h⟩
theorem held_loud {L : Act → World → Prop} {o : Oper} {l : List (Bool × Oper)} {a : Act} {w : World}
    (h : ∀ K : Act → World → Prop, Shut (∀ a w, S w → (S w → wpHeld P ops Q S L l a w) → K a w) → if Region.wanted o (yielded ops a.tmps) = true then Oper.wp P o a w K Q else K (a.put o.dst undef) w) : wpHeld P ops Q S L ((false, o) :: l) a w := h
theorem held_nil {L : Act → World → Prop} {a : Act} {w : World} (h : L a w) : wpHeld P ops Q S L [] a w := h
end
end Alg
end
section
open Go
namespace Alg
section
variable {P : Program} {ops : Array Oper} {Q : Exit → Act → World → Prop} {md : Region.Mode} {S1 S2 : World → Prop}
structure CInv (md : Region.Mode) (ops : Array Oper) (listed : Array Bool) : Prop where
  size : listed.size = ops.size
  closed : ∀ j oj, ops[j]? = some oj → listed.getD j false = true → ∀ e ∈ oj.after, Region.binds md e = true → listed.getD e.on false = true
theorem CInv.set {i : Nat} {listed : Array Bool} (inv : CInv md ops listed) (hi : i ∈ Region.ready md ops listed) : CInv md ops (listed.setIfInBounds i true) := by
  obtain ⟨_, oi, hoi, hall⟩ := mem_ready.1 hi
  refine ⟨by simp [inv.size], fun j oj hj hl e he hb => ?_⟩
  by_cases hij : i = j
  · subst hij
    have : oj = oi := Option.some.inj (hj.symm.trans hoi)
    subst this
    exact getD_set_true (hall e he hb)
  · rw [getD_set_ne false hij] at hl
    exact getD_set_true (inv.closed j oj hj hl e he hb)
theorem CInv.start : CInv md ops (Array.replicate ops.size false) := ⟨by simp, fun j oj _ hl => by rw [getD_replicate_false] at hl; cases hl⟩
inductive Anc (md : Region.Mode) (ops : Array Oper) (k : Nat) : Nat → Prop
  | self : Anc md ops k k
  | step {j i : Nat} : Anc md ops k j → Region.waitsFor md ops j i = true → Anc md ops k i
theorem Anc.listed {k i : Nat} {listed : Array Bool} (inv : CInv md ops listed) (h : Anc md ops k i) (hk : listed.getD k false = true) : listed.getD i false = true := by
  induction h with
  | self => exact hk
  | step _ hw ih =>
    obtain ⟨oj, hoj, e, he, hb, hon⟩ := Region.waitsFor_spec hw
    rw [← hon]
    exact inv.closed _ oj hoj ih e he hb
def preds (md : Region.Mode) (ops : Array Oper) (j : Nat) : List Nat := (List.range ops.size).filter fun i => Region.waitsFor md ops j i
def ancs (md : Region.Mode) (ops : Array Oper) (k : Nat) : List Nat := (List.range (k + 1)).reverse.foldl (fun s t => if s.contains t then s ++ preds md ops t else s) [k]
theorem foldl_anc (k : Nat) : ∀ (l s : List Nat), (∀ i, i ∈ s → Anc md ops k i) → ∀ i, i ∈ l.foldl (fun s t => if s.contains t then s ++ preds md ops t else s) s → Anc md ops k i
  | [], _, h, i, hi => h i hi
  | t :: l, s, h, i, hi => by
    simp only [List.foldl_cons] at hi
    refine foldl_anc k l _ ?_ i hi
    intro j hj
    split at hj
    · rename_i ht
      rcases List.mem_append.1 hj with h1 | h1
      · exact h j h1
      · simp only [preds, List.mem_filter] at h1
        exact .step (h t (by simpa using ht)) h1.2
    · exact h j hj
theorem ancs_spec {k i : Nat} (h : (ancs md ops k).contains i = true) : Anc md ops k i :=
  foldl_anc k _ [k] (fun j hj => by rw [List.mem_singleton.1 hj]; exact .self) i (List.contains_iff_mem.1 h)
/-- what holds: till k has come up S1, then S2 -/
def SK (S1 S2 : World → Prop) (b : Bool) (w : World) : Prop := if b = true then S2 w else S1 w
def wpAnyK (P : Program) (md : Region.Mode) (ops : Array Oper) (Q : Exit → Act → World → Prop) (S1 S2 : World → Prop) (k : Nat) : Nat → Array Bool → Act → World → Prop
  | 0, listed, a, w => Region.ready md ops listed = [] ∧ Q .normal a w
  | f + 1, listed, a, w =>
    (Region.ready md ops listed = [] → Q .normal a w) ∧
    ∀ i ∈ Region.ready md ops listed, wpOp P ops Q i (fun a' w' => SK S1 S2 ((listed.setIfInBounds i true).getD k false) w' ∧ wpAnyK P md ops Q S1 S2 k f (listed.setIfInBounds i true) a' w') a w
theorem wpAny_of_K {k : Nat} : ∀ (f : Nat) (listed : Array Bool) (a : Act) (w : World), wpAnyK P md ops Q S1 S2 k f listed a w → wpAny P md ops Q f listed a w
  | 0, _, _, _, h => h
  | f + 1, _, _, _, h => ⟨h.1, fun i hi => wpOp_mono (fun a' w' h' => wpAny_of_K f _ a' w' h'.2) (h.2 i hi)⟩
theorem wpAnyK_first {k i : Nat} {oi : Oper} {v : Value} {T : World → Prop} (hi : ops[i]? = some oi) (hsel : ∀ (j : Nat) (o : Oper) cs b, ops[j]? = some o → o.op ≠ .select cs b)
    (hQ : ∀ c a w, Q (.panic c) (a.put oi.dst v) w → Q (.panic c) a w) (hki : i ≠ k)
    (hT : ∀ listed w, CInv md ops listed → listed.getD i true = false → SK S1 S2 (listed.getD k false) w → T w) :
    ∀ (f : Nat) (listed : Array Bool) (a : Act) (w : World), CInv md ops listed →
      (∀ j oj, ops[j]? = some oj → j ≠ i → listed.getD j true = false → (∀ e ∈ oj.after, Region.binds md e = true → e.on ≠ i) → oi.apart ops oj = true) →
      i ∈ Region.ready md ops listed → YieldsIf P ops T oi v a → SK S1 S2 (listed.getD k false) w →
      wpAnyK P md ops Q S1 S2 k f (listed.setIfInBounds i true) (a.put oi.dst v) w → wpAnyK P md ops Q S1 S2 k (f + 1) listed a w := by
  have hsame : ∀ (listed : Array Bool), (listed.setIfInBounds i true).getD k false = listed.getD k false := fun listed => getD_set_ne false hki
  intro f
  induction f with
  | zero =>
    intro listed a w inv _ hr hy hS H
    have hun := (mem_ready.1 hr).1
    refine ⟨fun h => (by rw [h] at hr; cases hr), fun j hj => ?_⟩
    by_cases hji : j = i
    · subst hji; exact hy.wpOp hi (hT listed w inv hun hS) ⟨by rw [hsame]; exact hS, H⟩
    · have := ready_mono hj hji
      rw [H.1] at this
      cases this
  | succ f ih =>
    intro listed a w inv hfree hr hy hS H
    have hun := (mem_ready.1 hr).1
    refine ⟨fun h => (by rw [h] at hr; cases hr), fun j hj => ?_⟩
    by_cases hji : j = i
    · subst hji; exact hy.wpOp hi (hT listed w inv hun hS) ⟨by rw [hsame]; exact hS, H⟩
    · have h1 := H.2 j (ready_mono hj hji)
      obtain ⟨hjun, oj, hoj, hall⟩ := mem_ready.1 hj
      have hnot : ∀ e ∈ oj.after, Region.binds md e = true → e.on ≠ i := fun e he hb heq => by
        have h1 := hall e he hb
        rw [heq, getD_both hun] at h1
        cases h1
      have h2 := wpOp_putIf hoj (hfree j oj hoj hji hjun hnot) (fun cs b => hsel i oi cs b hi) (fun cs b => hsel j oj cs b hoj) hQ hy h1
      have hfree' : ∀ k ok, ops[k]? = some ok → k ≠ i → (listed.setIfInBounds j true).getD k true = false →
          (∀ e ∈ ok.after, Region.binds md e = true → e.on ≠ i) → oi.apart ops ok = true := fun k ok hk hki hun hno => by
        refine hfree k ok hk hki ?_ hno
        by_cases hjk : j = k
        · subst hjk; exact hjun
        · rw [getD_set_ne true hjk] at hun; exact hun
      refine wpOp_mono (fun a' w' h3 => ?_) h2
      have h4 := h3.2.1
      rw [Array.setIfInBounds_comm _ _ (Ne.symm hji), hsame] at h4
      refine ⟨h4, ih (listed.setIfInBounds j true) a' w' (inv.set hj) hfree' (ready_mono hr (Ne.symm hji)) h3.1 h4 ?_⟩
      rw [Array.setIfInBounds_comm _ _ hji]
      exact h3.2.2
/-- one operation behind the other: 0: loud; 1: quiet, and k waits for it; 2: quiet; 3: k itself -/
def wpHeld2 (P : Program) (ops : Array Oper) (Q : Exit → Act → World → Prop) (S1 S2 : World → Prop) : Bool → List (Nat × Oper) → Act → World → Prop
  | _, [], a, w => Q .normal a w
  | b, (1, o) :: l, a, w => ∃ v, YieldsIf P ops S1 o v a ∧ wpHeld2 P ops Q S1 S2 b l (a.put o.dst v) w
  | b, (2, o) :: l, a, w => ∃ v, YieldsIf P ops S2 o v a ∧ wpHeld2 P ops Q S1 S2 b l (a.put o.dst v) w
  | _, (3, o) :: l, a, w => ∀ K : Act → World → Prop, Shut (∀ a w, S2 w → (S2 w → wpHeld2 P ops Q S1 S2 true l a w) → K a w) → if Region.wanted o (yielded ops a.tmps) = true then Oper.wp P o a w K Q else K (a.put o.dst undef) w
  | b, (_, o) :: l, a, w => ∀ K : Act → World → Prop, Shut (∀ a w, SK S1 S2 b w → (SK S1 S2 b w → wpHeld2 P ops Q S1 S2 b l a w) → K a w) → if Region.wanted o (yielded ops a.tmps) = true then Oper.wp P o a w K Q else K (a.put o.dst undef) w
def pick2 (l : List Oper) : List (Nat × Nat) → List (Nat × Oper)
  | [] => []
  | (b, i) :: r => match l[i]? with
    | some o => (b, o) :: pick2 l r
    | none => pick2 l r
def heldHead2 (md : Region.Mode) (ops : Array Oper) (k : Nat) : List (Nat × Nat) → Array Bool → Bool
  | [], listed => (Region.ready md ops listed).isEmpty
  | (0, i) :: r, listed => decide (i ≠ k) && decide (Region.ready md ops listed = [i]) && heldHead2 md ops k r (listed.setIfInBounds i true)
  | (1, i) :: r, listed => decide (i ≠ k) && (ancs md ops k).contains i && (Region.ready md ops listed).contains i && Region.free md ops listed i && heldHead2 md ops k r (listed.setIfInBounds i true)
  | (2, i) :: r, listed => decide (i ≠ k) && (Region.ready md ops listed).contains i && Region.free md ops listed i && heldHead2 md ops k r (listed.setIfInBounds i true)
  | (3, i) :: r, listed => decide (i = k) && decide (Region.ready md ops listed = [i]) && heldHead2 md ops k r (listed.setIfInBounds i true)
  | _ :: _, _ => false
def held2B (md : Region.Mode) (ops : Array Oper) (k : Nat) (r : List (Nat × Nat)) : Bool :=
  Region.noSelect ops && decide (k < ops.size) && decide (r.length = ops.size) && heldHead2 md ops k r (Array.replicate ops.size false)
theorem getD_bool {listed : Array Bool} {k : Nat} (hk : k < listed.size) {b : Bool} : listed.getD k true = b ↔ listed.getD k false = b := by simp [hk]
theorem wpAnyK_held {l : List Oper} {k : Nat} (hQ : ∀ c a (d : Option Tmp) v w, Q (.panic c) (a.put d v) w → Q (.panic c) a w) (h12 : ∀ w, S1 w → S2 w)
    (hsel : Region.noSelect l.toArray = true) (hk : k < l.toArray.size) :
    ∀ (r : List (Nat × Nat)) (listed : Array Bool) (b : Bool) (a : Act) (w : World), CInv md l.toArray listed → listed.getD k false = b → heldHead2 md l.toArray k r listed = true → SK S1 S2 b w →
    wpHeld2 P l.toArray Q S1 S2 b (pick2 l r) a w → wpAnyK P md l.toArray Q S1 S2 k r.length listed a w
  | [], listed, b, a, w, _, _, hB, _, h => ⟨by simpa [heldHead2] using hB, h⟩
  | (0, i) :: r, listed, b, a, w, inv, hb, hB, hS, h => by
    simp only [heldHead2, Bool.and_eq_true, decide_eq_true_eq] at hB
    obtain ⟨⟨hik, hr⟩, hB'⟩ := hB
    have hr' : i ∈ Region.ready md l.toArray listed := by rw [hr]; simp
    obtain ⟨_, o, ho, _⟩ := mem_ready.1 hr'
    have ho' : l[i]? = some o := by simpa using ho
    unfold pick2 at h
    simp only [ho'] at h
    refine ⟨fun h0 => (by rw [hr] at h0; cases h0), fun j hj => ?_⟩
    rw [hr] at hj
    obtain rfl : j = i := by simpa using hj
    have e : (listed.setIfInBounds j true).getD k false = b := by rw [getD_set_ne false hik]; exact hb
    refine wpOp_step ho (fun K' hK => h K' (fun a w hS2 hW => hK a w ⟨by rw [e]; exact hS2, ?_⟩))
    exact wpAnyK_held hQ h12 hsel hk r _ b _ w (inv.set hr') e hB' hS2 (hW hS2)
  | (1, i) :: r, listed, b, a, w, inv, hb, hB, hS, h => by
    simp only [heldHead2, Bool.and_eq_true, decide_eq_true_eq] at hB
    obtain ⟨⟨⟨⟨hik, han⟩, hr⟩, hf⟩, hB'⟩ := hB
    have hr' : i ∈ Region.ready md l.toArray listed := by simpa using hr
    obtain ⟨_, o, ho, _⟩ := mem_ready.1 hr'
    have ho' : l[i]? = some o := by simpa using ho
    unfold pick2 at h
    simp only [ho'] at h
    obtain ⟨v, hy, hK⟩ := h
    have e : (listed.setIfInBounds i true).getD k false = b := by rw [getD_set_ne false hik]; exact hb
    refine wpAnyK_first ho (Region.noSelect_spec hsel) (fun c a w => hQ c a _ _ w) hik ?_ r.length listed a w inv (Region.free_spec ho hf) hr' hy (by rw [hb]; exact hS)
      (wpAnyK_held hQ h12 hsel hk r _ b _ w (inv.set hr') e hB' hS hK)
    intro listed' w' inv' hun hS'
    have hku : listed'.getD k false = false := by
      cases hc : listed'.getD k false with
      | false => rfl
      | true =>
        have h3 := (ancs_spec han).listed inv' hc
        rw [getD_both hun] at h3
        cases h3
    rw [hku] at hS'
    exact hS'
  | (2, i) :: r, listed, b, a, w, inv, hb, hB, hS, h => by
    simp only [heldHead2, Bool.and_eq_true, decide_eq_true_eq] at hB
    obtain ⟨⟨⟨hik, hr⟩, hf⟩, hB'⟩ := hB
    have hr' : i ∈ Region.ready md l.toArray listed := by simpa using hr
    obtain ⟨_, o, ho, _⟩ := mem_ready.1 hr'
    have ho' : l[i]? = some o := by simpa using ho
    unfold pick2 at h
    simp only [ho'] at h
    obtain ⟨v, hy, hK⟩ := h
    have e : (listed.setIfInBounds i true).getD k false = b := by rw [getD_set_ne false hik]; exact hb
    refine wpAnyK_first ho (Region.noSelect_spec hsel) (fun c a w => hQ c a _ _ w) hik ?_ r.length listed a w inv (Region.free_spec ho hf) hr' hy (by rw [hb]; exact hS)
      (wpAnyK_held hQ h12 hsel hk r _ b _ w (inv.set hr') e hB' hS hK)
    intro listed' w' _ _ hS'
    unfold SK at hS'
    split at hS'
    · exact hS'
    · exact h12 _ hS'
  | (3, i) :: r, listed, b, a, w, inv, _, hB, hS, h => by
    simp only [heldHead2, Bool.and_eq_true, decide_eq_true_eq] at hB
    obtain ⟨⟨hik, hr⟩, hB'⟩ := hB
    have hr' : i ∈ Region.ready md l.toArray listed := by rw [hr]; simp
    obtain ⟨_, o, ho, _⟩ := mem_ready.1 hr'
    have ho' : l[i]? = some o := by simpa using ho
    unfold pick2 at h
    simp only [ho'] at h
    refine ⟨fun h0 => (by rw [hr] at h0; cases h0), fun j hj => ?_⟩
    rw [hr] at hj
    obtain rfl : j = i := by simpa using hj
    have e : (listed.setIfInBounds j true).getD k false = true := by
      have : j < listed.size := by rw [inv.size, hik]; exact hk
      rw [← hik]; simp [this]
    refine wpOp_step ho (fun K' hK => h K' (fun a w hS2 hW => hK a w ⟨by rw [e]; exact hS2, ?_⟩))
    exact wpAnyK_held hQ h12 hsel hk r _ true _ w (inv.set hr') e hB' hS2 (hW hS2)
  | (_ + 4, i) :: r, listed, b, a, w, _, _, hB, _, _ => by simp [heldHead2] at hB
theorem wp_region_held2 {id : Nat} {a : Act} {w : World} {l : List Oper} (k : Nat) (r : List (Nat × Nat)) (S1 S2 : World → Prop) (hm : P.follows .mixedOrders = true) (hB : held2B .any l.toArray k r = true)
    (hQ : ∀ c a (d : Option Tmp) v w, Q (.panic c) (a.put d v) w → Q (.panic c) a w) (h12 : ∀ w, S1 w → S2 w) (hS : S1 w.drew)
    (h : S1 w.drew → wpHeld2 P l.toArray Q S1 S2 false (pick2 l r) a w.drew) : (Code.region id l.toArray true).wp P Q a w := by
  simp only [held2B, Bool.and_eq_true, decide_eq_true_eq] at hB
  obtain ⟨⟨⟨hsel, hk⟩, hlen⟩, hlex⟩ := hB
  have H := wpAnyK_held (md := .any) hQ h12 hsel hk r _ false a w.drew CInv.start (getD_replicate_false _ _) hlex hS (h hS)
  refine wp_region_any hm ?_
  rw [hlen] at H
  exact wpAny_of_K _ _ _ _ H
theorem held2_early {o : Oper} {l : List (Nat × Oper)} {a : Act} {w : World} {v : Value} {b : Bool} (hw : Region.wanted o (yielded ops a.tmps) = true) (hy : ∀ w, S1 w → (execOp a.eval o).run P w = .ok (.value v) w)
    (h : wpHeld2 P ops Q S1 S2 b l (a.put o.dst v) w) : wpHeld2 P ops Q S1 S2 b ((1, o) :: l) a w := ⟨v, Or.inl ⟨hw, hy⟩, h⟩
theorem held2_quiet {o : Oper} {l : List (Nat × Oper)} {a : Act} {w : World} {v : Value} {b : Bool} (hw : Region.wanted o (yielded ops a.tmps) = true) (hy : ∀ w, S2 w → (execOp a.eval o).run P w = .ok (.value v) w)
    (h : wpHeld2 P ops Q S1 S2 b l (a.put o.dst v) w) : wpHeld2 P ops Q S1 S2 b ((2, o) :: l) a w := ⟨v, Or.inl ⟨hw, hy⟩, h⟩
theorem held2_loud {o : Oper} {l : List (Nat × Oper)} {a : Act} {w : World}
    (h : ∀ K : Act → World → Prop, Shut (∀ a w, S1 w → (S1 w → wpHeld2 P ops Q S1 S2 false l a w) → K a w) → if Region.wanted o (yielded ops a.tmps) = true then Oper.wp P o a w K Q else K (a.put o.dst undef) w) :
    wpHeld2 P ops Q S1 S2 false ((0, o) :: l) a w := fun K hK => h K (fun a w h1 h2 => hK.out a w h1 h2)
theorem held2_loud' {o : Oper} {l : List (Nat × Oper)} {a : Act} {w : World}
    (h : ∀ K : Act → World → Prop, Shut (∀ a w, S2 w → (S2 w → wpHeld2 P ops Q S1 S2 true l a w) → K a w) → if Region.wanted o (yielded ops a.tmps) = true then Oper.wp P o a w K Q else K (a.put o.dst undef) w) :
    wpHeld2 P ops Q S1 S2 true ((0, o) :: l) a w := fun K hK => h K (fun a w h1 h2 => hK.out a w h1 h2)
theorem held2_store {o : Oper} {l : List (Nat × Oper)} {a : Act} {w : World} {b : Bool}
    (h : ∀ K : Act → World → Prop, Shut (∀ a w, S2 w → (S2 w → wpHeld2 P ops Q S1 S2 true l a w) → K a w) → if Region.wanted o (yielded ops a.tmps) = true then Oper.wp P o a w K Q else K (a.put o.dst undef) w) :
    wpHeld2 P ops Q S1 S2 b ((3, o) :: l) a w := h
theorem held2_nil {a : Act} {w : World} {b : Bool} (h : Q .normal a w) : wpHeld2 P ops Q S1 S2 b [] a w := h
end
end Alg
end
section
open Go
namespace Alg
section
variable {F : Fence} {n : Nat} {P : Program} {ops : Array Oper} {Q : Exit → Act → World → Prop} {md : Region.Mode} {S S1 S2 : World → Prop}
def YI (P : Program) (ops : Array Oper) (S : World → Prop) (o : Oper) (v : Value) (a : Act) : Prop := YieldsIf P ops S o v a ∧ ∀ w, o.about P w a.eval = none
def noDefer (ops : Array Oper) : Bool := ops.toList.all fun o => match o.op with | .defer _ => false | _ => true
theorem noDefer_spec (h : noDefer ops = true) : ∀ (j : Nat) (o : Oper) c, ops[j]? = some o → o.op ≠ .defer c := by
  intro j o c ho e
  have hm : o ∈ ops.toList := by
    rw [Array.getElem?_eq_some_iff] at ho
    obtain ⟨hj, rfl⟩ := ho
    exact Array.mem_toList_iff.2 (Array.getElem_mem hj)
  have := List.all_eq_true.1 h o hm
  rw [e] at this
  cases this
theorem YI.of_same {o : Oper} {v : Value} {a a' : Act} (hy : YI P ops S o v a) (he : execOp a'.eval o = execOp a.eval o)
    (hw : Region.wanted o (yielded ops a'.tmps) = Region.wanted o (yielded ops a.tmps)) (hb : ∀ w, o.about P w a'.eval = o.about P w a.eval) : YI P ops S o v a' :=
  ⟨hy.1.of_same he hw, fun w => by rw [hb w]; exact hy.2 w⟩
theorem YI.wpOp (hnd : ∀ (j : Nat) (o : Oper) c, ops[j]? = some o → o.op ≠ .defer c) {i : Nat} {o : Oper} {v : Value} {a : Act} (hi : ops[i]? = some o) (hy : YI P ops S o v a)
    {K : Act → World → Prop} {w : World} (hS : S w) (h : K (a.put o.dst v) w) : wpOpIn F n P ops Q i K a w := by
  unfold Go.wpOpIn
  simp only [hi]
  have hab : ∀ f, o.about P w a.eval = some f → F.fn f := fun f hf => by rw [hy.2 w] at hf; cases hf
  rcases hy.1 with ⟨hw, hv⟩ | ⟨hw, rfl⟩
  · simp only [hw, if_true, Oper.wpIn, Oper.semAt_eq _ _ _ (fun c => hnd i o c hi), hv w hS, Oper.uponIn]; exact ⟨hab, h⟩
  · simp only [hw, Bool.false_eq_true, if_false]; exact ⟨hab, h⟩
theorem wpOpIn_putIf {j : Nat} {oi oj : Oper} {v : Value} (hnd : ∀ (j : Nat) (o : Oper) c, ops[j]? = some o → o.op ≠ .defer c) (hj : ops[j]? = some oj) (hap : oi.apart ops oj = true)
    (hsi : ∀ cs b, oi.op ≠ .select cs b) (hsj : ∀ cs b, oj.op ≠ .select cs b)
    (hQ : ∀ c a w, Q (.panic c) (a.put oi.dst v) w → Q (.panic c) a w) {K : Act → World → Prop} {a : Act} {w : World}
    (hy : YI P ops S oi v a) (h : wpOpIn F n P ops Q j K (a.put oi.dst v) w) :
    wpOpIn F n P ops Q j (fun a' w' => YI P ops S oi v a' ∧ K (a'.put oi.dst v) w') a w := by
  obtain ⟨h1, h2, h3⟩ := Oper.apart_spec hap
  have keep : ∀ (a : Act), YI P ops S oi v a → ∀ u, YI P ops S oi v (a.put oj.dst u) := fun a hy u =>
    hy.of_same (execOp_put oi hsi a oj.dst u h3) (wanted_put oi a oj.dst u h3) (fun w => about_put oi w a oj.dst u h3)
  have keepD : ∀ d, YI P ops S oi v { a with defers := d :: a.defers } := fun d => hy.of_same rfl rfl (fun _ => rfl)
  have hsem : ∀ ρ, Oper.semAt F.round ρ oj = execOp ρ oj := fun ρ => Oper.semAt_eq _ _ _ (fun c => hnd j oj c hj)
  unfold wpOpIn at *
  simp only [hj] at *
  rw [wanted_put oj a oi.dst v h1, about_put oj w a oi.dst v h1] at h
  split
  · rename_i hw
    simp only [hw, if_true] at h
    unfold Oper.wpIn at *
    rw [about_put oj w a oi.dst v h1] at h
    refine ⟨h.1, ?_⟩
    have h := h.2
    rw [hsem, execOp_put oj hsj a oi.dst v h1] at h
    rw [hsem]
    generalize (execOp a.eval oj).run P w = r at *
    cases r with
    | ok x w' =>
      cases x <;> simp only [Oper.uponIn] at h ⊢
      case value u => exact ⟨keep a hy u, by rw [← Act.put_comm a v u h2]; exact h⟩
      case skip => exact ⟨keep a hy _, by rw [← Act.put_comm a v undef h2]; exact h⟩
      case defer d =>
        refine ⟨keep _ (keepD d) _, ?_⟩
        rw [← Act.put_comm _ v undef h2, ← Act.put_defers]
        exact h
      case enter f args =>
        refine ⟨h.1, CallsIn.mono h.2 fun e w'' he => ?_⟩
        cases e with
        | returned u => exact ⟨keep a hy u, by rw [← Act.put_comm a v u h2]; exact he⟩
        | panicked c => exact hQ _ _ _ he
        | outgrown => exact he
      case row row args => exact ⟨h.1, RowsIn.mono h.2 fun u w'' he => ⟨keep a hy u, by rw [← Act.put_comm a v u h2]; exact he⟩⟩
      case round l f tmps assign body =>
        refine ⟨h.1, RoundIn.mono h.2 fun e w'' he => ?_⟩
        cases e with
        | returned u => exact ⟨keep a hy u, by rw [← Act.put_comm a v u h2]; exact he⟩
        | panicked c => exact hQ _ _ _ he
        | outgrown => exact he
    | halt x w' =>
      cases x <;> simp only [Oper.uponIn] at h ⊢
      case panic u => exact hQ _ _ _ h
  · rename_i hw
    simp only [hw] at h
    exact ⟨h.1, keep a hy _, by rw [← Act.put_comm a v undef h2]; exact h.2⟩
theorem wpOpIn_stepI {i : Nat} {o : Oper} {K : Act → World → Prop} {a : Act} {w : World} (ho : ops[i]? = some o)
    (h : ∀ K' : Act → World → Prop, (∀ a w, K a w → K' a w) → if Region.wanted o (yielded ops a.tmps) = true then Oper.wpIn F n P o a w K' Q else ((∀ f, o.about P w a.eval = some f → F.fn f) ∧ K' (a.put o.dst undef) w)) : wpOpIn F n P ops Q i K a w := by
  unfold wpOpIn
  simp only [ho]
  exact h K (fun _ _ h => h)
def wpAnyKI (F : Fence) (n : Nat) (P : Program) (md : Region.Mode) (ops : Array Oper) (Q : Exit → Act → World → Prop) (S1 S2 : World → Prop) (k : Nat) : Nat → Array Bool → Act → World → Prop
  | 0, listed, a, w => Region.ready md ops listed = [] ∧ Q .normal a w
  | f + 1, listed, a, w =>
    (Region.ready md ops listed = [] → Q .normal a w) ∧
    ∀ i ∈ Region.ready md ops listed, wpOpIn F n P ops Q i (fun a' w' => SK S1 S2 ((listed.setIfInBounds i true).getD k false) w' ∧ wpAnyKI F n P md ops Q S1 S2 k f (listed.setIfInBounds i true) a' w') a w
theorem wpAnyIn_of_KI {k : Nat} : ∀ (f : Nat) (listed : Array Bool) (a : Act) (w : World), wpAnyKI F n P md ops Q S1 S2 k f listed a w → wpAnyIn F n P md ops Q f listed a w
  | 0, _, _, _, h => h
  | f + 1, _, _, _, h => ⟨h.1, fun i hi => wpOpIn_mono (fun a' w' h' => wpAnyIn_of_KI f _ a' w' h'.2) (h.2 i hi)⟩
theorem wpAnyKI_first {k i : Nat} {oi : Oper} {v : Value} {T : World → Prop} (hnd : ∀ (j : Nat) (o : Oper) c, ops[j]? = some o → o.op ≠ .defer c) (hi : ops[i]? = some oi) (hsel : ∀ (j : Nat) (o : Oper) cs b, ops[j]? = some o → o.op ≠ .select cs b)
    (hQ : ∀ c a w, Q (.panic c) (a.put oi.dst v) w → Q (.panic c) a w) (hki : i ≠ k)
    (hT : ∀ listed w, CInv md ops listed → listed.getD i true = false → SK S1 S2 (listed.getD k false) w → T w) :
    ∀ (f : Nat) (listed : Array Bool) (a : Act) (w : World), CInv md ops listed →
      (∀ j oj, ops[j]? = some oj → j ≠ i → listed.getD j true = false → (∀ e ∈ oj.after, Region.binds md e = true → e.on ≠ i) → oi.apart ops oj = true) →
      i ∈ Region.ready md ops listed → YI P ops T oi v a → SK S1 S2 (listed.getD k false) w →
      wpAnyKI F n P md ops Q S1 S2 k f (listed.setIfInBounds i true) (a.put oi.dst v) w → wpAnyKI F n P md ops Q S1 S2 k (f + 1) listed a w := by
  have hsame : ∀ (listed : Array Bool), (listed.setIfInBounds i true).getD k false = listed.getD k false := fun listed => getD_set_ne false hki
  intro f
  induction f with
  | zero =>
    intro listed a w inv _ hr hy hS H
    have hun := (mem_ready.1 hr).1
    refine ⟨fun h => (by rw [h] at hr; cases hr), fun j hj => ?_⟩
    by_cases hji : j = i
    · subst hji; exact YI.wpOp hnd hi hy (hT listed w inv hun hS) ⟨by rw [hsame]; exact hS, H⟩
    · have := ready_mono hj hji
      rw [H.1] at this
      cases this
  | succ f ih =>
    intro listed a w inv hfree hr hy hS H
    have hun := (mem_ready.1 hr).1
    refine ⟨fun h => (by rw [h] at hr; cases hr), fun j hj => ?_⟩
    by_cases hji : j = i
    · subst hji; exact YI.wpOp hnd hi hy (hT listed w inv hun hS) ⟨by rw [hsame]; exact hS, H⟩
    · have h1 := H.2 j (ready_mono hj hji)
      obtain ⟨hjun, oj, hoj, hall⟩ := mem_ready.1 hj
      have hnot : ∀ e ∈ oj.after, Region.binds md e = true → e.on ≠ i := fun e he hb heq => by
        have h1 := hall e he hb
        rw [heq, getD_both hun] at h1
        cases h1
      have h2 := wpOpIn_putIf hnd hoj (hfree j oj hoj hji hjun hnot) (fun cs b => hsel i oi cs b hi) (fun cs b => hsel j oj cs b hoj) hQ hy h1
      have hfree' : ∀ k ok, ops[k]? = some ok → k ≠ i → (listed.setIfInBounds j true).getD k true = false →
          (∀ e ∈ ok.after, Region.binds md e = true → e.on ≠ i) → oi.apart ops ok = true := fun k ok hk hki hun hno => by
        refine hfree k ok hk hki ?_ hno
        by_cases hjk : j = k
        · subst hjk; exact hjun
        · rw [getD_set_ne true hjk] at hun; exact hun
      refine wpOpIn_mono (fun a' w' h3 => ?_) h2
      have h4 := h3.2.1
      rw [Array.setIfInBounds_comm _ _ (Ne.symm hji), hsame] at h4
      refine ⟨h4, ih (listed.setIfInBounds j true) a' w' (inv.set hj) hfree' (ready_mono hr (Ne.symm hji)) h3.1 h4 ?_⟩
      rw [Array.setIfInBounds_comm _ _ hji]
      exact h3.2.2
/-- one operation behind the other: 0: loud; 1: quiet, and k waits for it; 2: quiet; 3: k itself -/
def wpHeldI (F : Fence) (n : Nat) (P : Program) (ops : Array Oper) (Q : Exit → Act → World → Prop) (S1 S2 : World → Prop) : Bool → List (Nat × Oper) → Act → World → Prop
  | _, [], a, w => Q .normal a w
  | b, (1, o) :: l, a, w => ∃ v, YI P ops S1 o v a ∧ wpHeldI F n P ops Q S1 S2 b l (a.put o.dst v) w
  | b, (2, o) :: l, a, w => ∃ v, YI P ops S2 o v a ∧ wpHeldI F n P ops Q S1 S2 b l (a.put o.dst v) w
  | _, (3, o) :: l, a, w => ∀ K : Act → World → Prop, Shut (∀ a w, S2 w → (S2 w → wpHeldI F n P ops Q S1 S2 true l a w) → K a w) → if Region.wanted o (yielded ops a.tmps) = true then Oper.wpIn F n P o a w K Q else ((∀ f, o.about P w a.eval = some f → F.fn f) ∧ K (a.put o.dst undef) w)
  | b, (_, o) :: l, a, w => ∀ K : Act → World → Prop, Shut (∀ a w, SK S1 S2 b w → (SK S1 S2 b w → wpHeldI F n P ops Q S1 S2 b l a w) → K a w) → if Region.wanted o (yielded ops a.tmps) = true then Oper.wpIn F n P o a w K Q else ((∀ f, o.about P w a.eval = some f → F.fn f) ∧ K (a.put o.dst undef) w)
theorem wpAnyKI_held {l : List Oper} {k : Nat} (hQ : ∀ c a (d : Option Tmp) v w, Q (.panic c) (a.put d v) w → Q (.panic c) a w) (h12 : ∀ w, S1 w → S2 w)
    (hsel : Region.noSelect l.toArray = true) (hnd : noDefer l.toArray = true) (hk : k < l.toArray.size) :
    ∀ (r : List (Nat × Nat)) (listed : Array Bool) (b : Bool) (a : Act) (w : World), CInv md l.toArray listed → listed.getD k false = b → heldHead2 md l.toArray k r listed = true → SK S1 S2 b w →
    wpHeldI F n P l.toArray Q S1 S2 b (pick2 l r) a w → wpAnyKI F n P md l.toArray Q S1 S2 k r.length listed a w
  | [], listed, b, a, w, _, _, hB, _, h => ⟨by simpa [heldHead2] using hB, h⟩
  | (0, i) :: r, listed, b, a, w, inv, hb, hB, hS, h => by
    simp only [heldHead2, Bool.and_eq_true, decide_eq_true_eq] at hB
    obtain ⟨⟨hik, hr⟩, hB'⟩ := hB
    have hr' : i ∈ Region.ready md l.toArray listed := by rw [hr]; simp
    obtain ⟨_, o, ho, _⟩ := mem_ready.1 hr'
    have ho' : l[i]? = some o := by simpa using ho
    unfold pick2 at h
    simp only [ho'] at h
    refine ⟨fun h0 => (by rw [hr] at h0; cases h0), fun j hj => ?_⟩
    rw [hr] at hj
    obtain rfl : j = i := by simpa using hj
    have e : (listed.setIfInBounds j true).getD k false = b := by rw [getD_set_ne false hik]; exact hb
    refine wpOpIn_stepI ho (fun K' hK => h K' (fun a w hS2 hW => hK a w ⟨by rw [e]; exact hS2, ?_⟩))
    exact wpAnyKI_held hQ h12 hsel hnd hk r _ b _ w (inv.set hr') e hB' hS2 (hW hS2)
  | (1, i) :: r, listed, b, a, w, inv, hb, hB, hS, h => by
    simp only [heldHead2, Bool.and_eq_true, decide_eq_true_eq] at hB
    obtain ⟨⟨⟨⟨hik, han⟩, hr⟩, hf⟩, hB'⟩ := hB
    have hr' : i ∈ Region.ready md l.toArray listed := by simpa using hr
    obtain ⟨_, o, ho, _⟩ := mem_ready.1 hr'
    have ho' : l[i]? = some o := by simpa using ho
    unfold pick2 at h
    simp only [ho'] at h
    obtain ⟨v, hy, hK⟩ := h
    have e : (listed.setIfInBounds i true).getD k false = b := by rw [getD_set_ne false hik]; exact hb
    refine wpAnyKI_first (noDefer_spec hnd) ho (Region.noSelect_spec hsel) (fun c a w => hQ c a _ _ w) hik ?_ r.length listed a w inv (Region.free_spec ho hf) hr' hy (by rw [hb]; exact hS)
      (wpAnyKI_held hQ h12 hsel hnd hk r _ b _ w (inv.set hr') e hB' hS hK)
    intro listed' w' inv' hun hS'
    have hku : listed'.getD k false = false := by
      cases hc : listed'.getD k false with
      | false => rfl
      | true =>
        have h3 := (ancs_spec han).listed inv' hc
        rw [getD_both hun] at h3
        cases h3
    rw [hku] at hS'
    exact hS'
  | (2, i) :: r, listed, b, a, w, inv, hb, hB, hS, h => by
    simp only [heldHead2, Bool.and_eq_true, decide_eq_true_eq] at hB
    obtain ⟨⟨⟨hik, hr⟩, hf⟩, hB'⟩ := hB
    have hr' : i ∈ Region.ready md l.toArray listed := by simpa using hr
    obtain ⟨_, o, ho, _⟩ := mem_ready.1 hr'
    have ho' : l[i]? = some o := by simpa using ho
    unfold pick2 at h
    simp only [ho'] at h
    obtain ⟨v, hy, hK⟩ := h
    have e : (listed.setIfInBounds i true).getD k false = b := by rw [getD_set_ne false hik]; exact hb
    refine wpAnyKI_first (noDefer_spec hnd) ho (Region.noSelect_spec hsel) (fun c a w => hQ c a _ _ w) hik ?_ r.length listed a w inv (Region.free_spec ho hf) hr' hy (by rw [hb]; exact hS)
      (wpAnyKI_held hQ h12 hsel hnd hk r _ b _ w (inv.set hr') e hB' hS hK)
    intro listed' w' _ _ hS'
    unfold SK at hS'
    split at hS'
    · exact hS'
    · exact h12 _ hS'
  | (3, i) :: r, listed, b, a, w, inv, _, hB, hS, h => by
    simp only [heldHead2, Bool.and_eq_true, decide_eq_true_eq] at hB
    obtain ⟨⟨hik, hr⟩, hB'⟩ := hB
    have hr' : i ∈ Region.ready md l.toArray listed := by rw [hr]; simp
    obtain ⟨_, o, ho, _⟩ := mem_ready.1 hr'
    have ho' : l[i]? = some o := by simpa using ho
    unfold pick2 at h
    simp only [ho'] at h
    refine ⟨fun h0 => (by rw [hr] at h0; cases h0), fun j hj => ?_⟩
    rw [hr] at hj
    obtain rfl : j = i := by simpa using hj
    have e : (listed.setIfInBounds j true).getD k false = true := by
      have : j < listed.size := by rw [inv.size, hik]; exact hk
      rw [← hik]; simp [this]
    refine wpOpIn_stepI ho (fun K' hK => h K' (fun a w hS2 hW => hK a w ⟨by rw [e]; exact hS2, ?_⟩))
    exact wpAnyKI_held hQ h12 hsel hnd hk r _ true _ w (inv.set hr') e hB' hS2 (hW hS2)
  | (_ + 4, i) :: r, listed, b, a, w, _, _, hB, _, _ => by simp [heldHead2] at hB
theorem wpIn_region_held2 {id : Nat} {a : Act} {w : World} {l : List Oper} (k : Nat) (r : List (Nat × Nat)) (S1 S2 : World → Prop) (hm : P.follows .mixedOrders = true) (hB : held2B .any l.toArray k r = true) (hnd : noDefer l.toArray = true)
    (hQ : ∀ c a (d : Option Tmp) v w, Q (.panic c) (a.put d v) w → Q (.panic c) a w) (h12 : ∀ w, S1 w → S2 w) (hS : S1 w.drew)
    (h : S1 w.drew → wpHeldI F n P l.toArray Q S1 S2 false (pick2 l r) a w.drew) : (Code.region id l.toArray true).wpIn F n P Q a w := by
  simp only [held2B, Bool.and_eq_true, decide_eq_true_eq] at hB
  obtain ⟨⟨⟨hsel, hk⟩, hlen⟩, hlex⟩ := hB
  have H := wpAnyKI_held (md := .any) hQ h12 hsel hnd hk r _ false a w.drew CInv.start (getD_replicate_false _ _) hlex hS (h hS)
  refine wpIn_region_any hm ?_
  rw [hlen] at H
  exact wpAnyIn_of_KI _ _ _ _ H
theorem heldI_early {o : Oper} {l : List (Nat × Oper)} {a : Act} {w : World} {v : Value} {b : Bool} (hw : Region.wanted o (yielded ops a.tmps) = true) (hab : ∀ w, o.about P w a.eval = none) (hy : ∀ w, S1 w → (execOp a.eval o).run P w = .ok (.value v) w)
    (h : wpHeldI F n P ops Q S1 S2 b l (a.put o.dst v) w) : wpHeldI F n P ops Q S1 S2 b ((1, o) :: l) a w := ⟨v, ⟨Or.inl ⟨hw, hy⟩, hab⟩, h⟩
theorem heldI_quiet {o : Oper} {l : List (Nat × Oper)} {a : Act} {w : World} {v : Value} {b : Bool} (hw : Region.wanted o (yielded ops a.tmps) = true) (hab : ∀ w, o.about P w a.eval = none) (hy : ∀ w, S2 w → (execOp a.eval o).run P w = .ok (.value v) w)
    (h : wpHeldI F n P ops Q S1 S2 b l (a.put o.dst v) w) : wpHeldI F n P ops Q S1 S2 b ((2, o) :: l) a w := ⟨v, ⟨Or.inl ⟨hw, hy⟩, hab⟩, h⟩
theorem heldI_loud {o : Oper} {l : List (Nat × Oper)} {a : Act} {w : World}
    (h : ∀ K : Act → World → Prop, Shut (∀ a w, S1 w → (S1 w → wpHeldI F n P ops Q S1 S2 false l a w) → K a w) → if Region.wanted o (yielded ops a.tmps) = true then Oper.wpIn F n P o a w K Q else ((∀ f, o.about P w a.eval = some f → F.fn f) ∧ K (a.put o.dst undef) w)) :
    wpHeldI F n P ops Q S1 S2 false ((0, o) :: l) a w := fun K hK => h K (fun a w h1 h2 => hK.out a w h1 h2)
theorem heldI_loud' {o : Oper} {l : List (Nat × Oper)} {a : Act} {w : World}
    (h : ∀ K : Act → World → Prop, Shut (∀ a w, S2 w → (S2 w → wpHeldI F n P ops Q S1 S2 true l a w) → K a w) → if Region.wanted o (yielded ops a.tmps) = true then Oper.wpIn F n P o a w K Q else ((∀ f, o.about P w a.eval = some f → F.fn f) ∧ K (a.put o.dst undef) w)) :
    wpHeldI F n P ops Q S1 S2 true ((0, o) :: l) a w := fun K hK => h K (fun a w h1 h2 => hK.out a w h1 h2)
theorem heldI_store {o : Oper} {l : List (Nat × Oper)} {a : Act} {w : World} {b : Bool}
    (h : ∀ K : Act → World → Prop, Shut (∀ a w, S2 w → (S2 w → wpHeldI F n P ops Q S1 S2 true l a w) → K a w) → if Region.wanted o (yielded ops a.tmps) = true then Oper.wpIn F n P o a w K Q else ((∀ f, o.about P w a.eval = some f → F.fn f) ∧ K (a.put o.dst undef) w)) :
    wpHeldI F n P ops Q S1 S2 b ((3, o) :: l) a w := h
theorem heldI_nil {a : Act} {w : World} {b : Bool} (h : Q .normal a w) : wpHeldI F n P ops Q S1 S2 b [] a w := h
end
end Alg
end
