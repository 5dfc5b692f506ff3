/- Drawn regions: edges added. An operation that takes a component of a tuple yields in whatever world; it may be taken to be done ahead of another one. The law of the boxes (H5) at such a region. -/
import Derived.Test.YtcdflpkbdabljaaDoorH5
open Go Go.RowKit
namespace Alg
/-- an operation that also waits for others -/
def upE (E : List (Nat × Nat)) (j : Nat) (o : Oper) : Oper := { o with after := o.after ++ ((E.filter fun e => decide (e.1 = j)).map fun e => (⟨e.2, .data⟩ : Edge)).toArray }
/-- the operations, with edges added: (t, i): t waits for i -/
def addE (E : List (Nat × Nat)) (l : List Oper) : List Oper := l.mapIdx fun j o => upE E j o
theorem addE_get (E : List (Nat × Nat)) (l : List Oper) (j : Nat) : (addE E l)[j]? = (l[j]?).map (upE E j) := by
  unfold addE; rw [List.getElem?_mapIdx]
theorem addE_len (E : List (Nat × Nat)) (l : List Oper) : (addE E l).length = l.length := by unfold addE; simp
theorem addE_arr (E : List (Nat × Nat)) (l : List Oper) (j : Nat) : (addE E l).toArray[j]? = (l.toArray[j]?).map (upE E j) := by
  have := addE_get E l j
  simpa using this
theorem addE_yielded (E : List (Nat × Nat)) (l : List Oper) (t : Array Value) : yielded (addE E l).toArray t = yielded l.toArray t := by
  funext j
  unfold yielded
  rw [addE_arr]
  cases l.toArray[j]? <;> rfl
theorem upE_wanted (E : List (Nat × Nat)) (j : Nat) (o : Oper) (y : Nat → Option Bool) : Region.wanted (upE E j o) y = Region.wanted o y := rfl
theorem upE_exec (E : List (Nat × Nat)) (j : Nat) (o : Oper) (ρ : Operand → Value) : execOp ρ (upE E j o) = execOp ρ o := rfl
theorem upE_wp (E : List (Nat × Nat)) (j : Nat) (o : Oper) (P : Program) (a : Act) (w : World) (K : Act → World → Prop) (Q : Exit → Act → World → Prop) : Oper.wp P (upE E j o) a w K Q = Oper.wp P o a w K Q := rfl
theorem upE_asks (E : List (Nat × Nat)) (j : Nat) (o : Oper) (P : Program) (a : Act) (w : World) : Oper.asks P (upE E j o) a w = Oper.asks P o a w := rfl
section
variable {P : Program} {Q : Exit → Act → World → Prop} {md : Region.Mode} {l : List Oper}
theorem wpOp_addE (E : List (Nat × Nat)) (j : Nat) (K : Act → World → Prop) (a : Act) (w : World) : wpOp P (addE E l).toArray Q j K a w = wpOp P l.toArray Q j K a w := by
  unfold wpOp
  rw [addE_arr, addE_yielded]
  cases l.toArray[j]? <;> rfl
theorem after_up {E : List (Nat × Nat)} {j : Nat} {o : Oper} {e : Edge} (h : e ∈ (upE E j o).after) : e ∈ o.after ∨ (j, e.on) ∈ E := by
  unfold upE at h
  rcases Array.mem_append.1 h with h | h
  · exact .inl h
  · right
    rw [List.mem_toArray] at h
    obtain ⟨x, hx, rfl⟩ := List.mem_map.1 h
    obtain ⟨h1, h2⟩ := List.mem_filter.1 hx
    have h3 : x.1 = j := of_decide_eq_true h2
    rw [← h3]; exact h1
theorem up_after {E : List (Nat × Nat)} {j : Nat} {o : Oper} {e : Edge} (h : e ∈ o.after) : e ∈ (upE E j o).after := Array.mem_append.2 (.inl h)
theorem up_edge {E : List (Nat × Nat)} {j i : Nat} {o : Oper} (h : (j, i) ∈ E) : (⟨i, .data⟩ : Edge) ∈ (upE E j o).after := by
  refine Array.mem_append.2 (.inr ?_)
  rw [List.mem_toArray]
  exact List.mem_map.2 ⟨(j, i), List.mem_filter.2 ⟨h, by simp⟩, rfl⟩
/-- what one waits for -/
def ancL (md : Region.Mode) (l : List Oper) (i : Nat) : Array Bool := ((List.range l.length).map fun j => (ancs md l.toArray i).contains j).toArray
theorem ancL_get {md : Region.Mode} {l : List Oper} {i j : Nat} (hj : j < l.length) : (ancL md l i).getD j true = (ancs md l.toArray i).contains j := by
  unfold ancL
  simp [hj]
/-- the edges serve: each leads to an operation that takes a component, that waits for nothing that the other one would not wait for, and that is apart from all that do not wait for it -/
def edgeB (md : Region.Mode) (l : List Oper) (E : List (Nat × Nat)) : Bool :=
  Region.noSelect l.toArray && E.all fun x => decide (x.1 < l.length) && !(E.any fun y => decide (y.1 = x.2)) && Region.free md l.toArray (ancL md l x.2) x.2 &&
    (match l[x.2]? with
      | some o => (match o.op with | .extract .. => true | _ => false) && o.after.all fun e => !Region.binds md e || ((ancs md l.toArray x.1).contains e.on && decide (e.on ≠ x.1))
      | none => false)
theorem extract_yields {ops : Array Oper} {i : Nat} {o : Oper} {x : Operand} {ix : Nat} (ho : ops[i]? = some o) (hop : o.op = .extract x ix) {K : Act → World → Prop} {a : Act} {w : World}
    (h : wpOp P ops Q i K a w) : ∃ v, Yields P ops o v a ∧ K (a.put o.dst v) w := by
  unfold wpOp at h
  simp only [ho] at h
  have hex : execOp a.eval o = (do pure (.value (← Instr.extract (a.eval x) ix))) := by unfold execOp; rw [hop]
  by_cases hw : Region.wanted o (yielded ops a.tmps) = true
  · rw [if_pos hw] at h
    unfold Oper.wp Oper.asks at h
    rw [hex] at h
    have none : ((do pure (Next.value (← Instr.extract (a.eval x) ix)) : Sem Next).runT P w #[]).2 = #[] := by
      unfold Instr.extract
      split
      · split <;> rfl
      · rfl
    have key : (∃ v, ∀ w', (do pure (Next.value (← Instr.extract (a.eval x) ix)) : Sem Next).run P w' = .ok (.value v) w') ∨
        (∀ K', o.upon P a K' Q ((do pure (Next.value (← Instr.extract (a.eval x) ix)) : Sem Next).run P w) = False) := by
      unfold Instr.extract
      split
      · rename_i vs hv
        split
        · rename_i v hvi
          exact .inl ⟨v, fun w' => rfl⟩
        · exact .inr fun K' => rfl
      · exact .inr fun K' => rfl
    rcases h with h | h
    · rcases key with ⟨v, hv⟩ | h1
      · refine ⟨v, .inl ⟨hw, fun w' => by rw [hex]; exact hv w'⟩, ?_⟩
        rw [hv w] at h; exact h
      · rw [h1] at h; exact h.elim
    · rw [none] at h
      simp at h
  · rw [if_neg hw] at h
    exact ⟨undef, .inr ⟨by simpa using hw, rfl⟩, h⟩
theorem wpAny_addE {E : List (Nat × Nat)} (hE : edgeB md l E = true) (hQ : ∀ c a (d : Option Tmp) v w, Q (.panic c) (a.put d v) w → Q (.panic c) a w) :
    ∀ (f : Nat) (listed : Array Bool) (a : Act) (w : World), CInv md l.toArray listed → wpAny P md (addE E l).toArray Q f listed a w → wpAny P md l.toArray Q f listed a w := by
  unfold edgeB at hE
  rw [Bool.and_eq_true] at hE
  obtain ⟨hsel, hE⟩ := hE
  -- what the check says of an edge
  have spec : ∀ t i, (t, i) ∈ E → t < l.length ∧ (∀ y ∈ E, y.1 ≠ i) ∧ ∃ o x ix, l.toArray[i]? = some o ∧ o.op = .extract x ix ∧ Region.free md l.toArray (ancL md l i) i = true ∧
      ∀ e ∈ o.after, Region.binds md e = true → Anc md l.toArray t e.on ∧ e.on ≠ t := by
    intro t i hti
    have h := List.all_eq_true.1 hE (t, i) hti
    simp only [Bool.and_eq_true, decide_eq_true_eq] at h
    obtain ⟨⟨⟨h1, h2⟩, h3⟩, h4⟩ := h
    refine ⟨h1, fun y hy e => ?_, ?_⟩
    · have : (E.any fun y => decide (y.1 = i)) = true := List.any_eq_true.2 ⟨y, hy, by simpa using e⟩
      rw [this] at h2; cases h2
    · split at h4
      · rename_i o ho
        rw [Bool.and_eq_true] at h4
        obtain ⟨h5, h6⟩ := h4
        split at h5
        · rename_i x ix hop
          refine ⟨o, x, ix, by simpa using ho, hop, h3, fun e he hb => ?_⟩
          have := Array.all_eq_true_iff_forall_mem.1 h6 e he
          rw [hb] at this
          simp only [Bool.not_true, Bool.false_or, Bool.and_eq_true, decide_eq_true_eq] at this
          exact ⟨ancs_spec this.1, this.2⟩
        · cases h5
      · cases h4
  -- one that would be held up by an edge: the other one is ready
  have held : ∀ (listed : Array Bool), CInv md l.toArray listed → ∀ t i, (t, i) ∈ E → t ∈ Region.ready md l.toArray listed → listed.getD i false = false → i ∈ Region.ready md l.toArray listed := by
    intro listed inv t i hti ht hi
    obtain ⟨htl, _, o, x, ix, ho, _, _, hanc⟩ := spec t i hti
    rw [mem_ready]
    have his : i < listed.size := by rw [inv.size]; exact (Array.getElem?_eq_some_iff.1 ho).1
    refine ⟨getD_in his hi, o, ho, fun e he hb => ?_⟩
    obtain ⟨h1, h2⟩ := hanc e he hb
    have hts : t < listed.size := by rw [inv.size]; simpa using htl
    have h3 := h1.listed (inv.set ht) (by simp [hts])
    rw [getD_set_ne false (Ne.symm h2)] at h3
    exact h3
  -- ready with the edges is ready without
  have sub : ∀ (listed : Array Bool) j, j ∈ Region.ready md (addE E l).toArray listed → j ∈ Region.ready md l.toArray listed := by
    intro listed j hj
    rw [mem_ready] at *
    obtain ⟨h0, o', ho', hall⟩ := hj
    rw [addE_arr] at ho'
    cases ho : l.toArray[j]? with
    | none => rw [ho] at ho'; cases ho'
    | some o =>
      rw [ho] at ho'
      obtain rfl : upE E j o = o' := Option.some.inj ho'
      exact ⟨h0, o, rfl, fun e he hb => hall e (up_after he) hb⟩
  have sup : ∀ (listed : Array Bool) j, j ∈ Region.ready md l.toArray listed → (∀ i, (j, i) ∈ E → listed.getD i false = true) → j ∈ Region.ready md (addE E l).toArray listed := by
    intro listed j hj hi
    rw [mem_ready] at *
    obtain ⟨h0, o, ho, hall⟩ := hj
    refine ⟨h0, upE E j o, by rw [addE_arr, ho]; rfl, fun e he hb => ?_⟩
    rcases after_up he with h | h
    · exact hall e h hb
    · exact hi _ h
  intro f
  induction f with
  | zero =>
    intro listed a w inv h
    refine ⟨?_, h.2⟩
    refine List.eq_nil_iff_forall_not_mem.2 fun j hj => ?_
    have hno : ∀ i, i ∉ Region.ready md (addE E l).toArray listed := fun i hi => by rw [h.1] at hi; cases hi
    refine hno j (sup listed j hj fun i hji => ?_)
    cases hc : listed.getD i false with
    | true => rfl
    | false => exact absurd (sup listed i (held listed inv j i hji hj hc) fun k hk => absurd rfl ((spec j i hji).2.1 _ hk)) (hno i)
  | succ f ih =>
    intro listed a w inv h
    by_cases hex : ∃ t i, (t, i) ∈ E ∧ i ∈ Region.ready md l.toArray listed
    · obtain ⟨t, i, hti, hi⟩ := hex
      obtain ⟨_, hnt, o, x, ix, ho, hop, hfree, _⟩ := spec t i hti
      have hi' := sup listed i hi fun k hk => absurd rfl (hnt _ hk)
      have h1 := h.2 i hi'
      rw [wpOp_addE] at h1
      obtain ⟨v, hy, h2⟩ := extract_yields ho hop h1
      refine wpAny_first ho (Region.noSelect_spec hsel) (fun c a w => hQ c a _ _ w) f listed a w (fun j oj hj hne hun hno => ?_) hi hy (ih _ _ _ (inv.set hi) h2)
      refine Region.free_spec ho hfree j oj hj hne ?_ hno
      have hjl : j < l.length := by simpa using (Array.getElem?_eq_some_iff.1 hj).1
      rw [ancL_get hjl]
      cases hc : (ancs md l.toArray i).contains j with
      | false => rfl
      | true =>
        have his : i < listed.size := by rw [inv.size]; exact (Array.getElem?_eq_some_iff.1 ho).1
        have h3 := (ancs_spec hc).listed (inv.set hi) (by simp [his])
        rw [getD_set_ne false (Ne.symm hne), getD_both hun] at h3
        cases h3
    · have same : ∀ j, j ∈ Region.ready md l.toArray listed → j ∈ Region.ready md (addE E l).toArray listed := fun j hj => sup listed j hj fun i hji => by
        cases hc : listed.getD i false with
        | true => rfl
        | false => exact absurd ⟨j, i, hji, held listed inv j i hji hj hc⟩ hex
      refine ⟨fun h0 => h.1 (List.eq_nil_iff_forall_not_mem.2 fun j hj => by have := sub listed j hj; rw [h0] at this; cases this), fun j hj => ?_⟩
      have h1 := h.2 j (same j hj)
      rw [wpOp_addE] at h1
      exact wpOp_mono (fun a' w' h2 => ih _ a' w' (inv.set hj) h2) h1
theorem yieldsIf_addE (E : List (Nat × Nat)) (S : World → Prop) (j : Nat) (o : Oper) (v : Value) (a : Act) : YieldsIf P (addE E l).toArray S (upE E j o) v a = YieldsIf P l.toArray S o v a := by
  unfold YieldsIf; rw [addE_yielded]; rfl
theorem wpHeldR_addE {E : List (Nat × Nat)} {w0 : World} {L L' : Act → World → Prop} (hL : ∀ a w, L a w → L' a w) :
    ∀ (r : List (Bool × Nat)) (a : Act) (w : World), wpHeldR P l.toArray Q w0 L (pick l r) a w → wpHeldR P (addE E l).toArray Q w0 L' (pick (addE E l) r) a w
  | [], a, w, h => hL a w h
  | (b, i) :: r, a, w, h => by
    unfold pick at h ⊢
    rw [addE_get]
    cases ho : l[i]? with
    | none => rw [ho] at h; exact wpHeldR_addE hL r a w h
    | some o =>
      rw [ho] at h
      cases b with
      | true =>
        obtain ⟨v, hy, hk⟩ := h
        exact ⟨v, by rw [yieldsIf_addE]; exact hy, wpHeldR_addE hL r _ _ hk⟩
      | false =>
        intro K hK
        rw [upE_wanted, addE_yielded, upE_wp]
        exact h K (fun a w' hR hW => hK a w' hR (fun w1 hw1 => wpHeldR_addE hL r a w1 (hW w1 hw1)))
def upL (E : List (Nat × Nat)) : Nat → List Oper → List Oper
  | _, [] => []
  | k, o :: m => upE E k o :: upL E (k + 1) m
theorem upL_get (E : List (Nat × Nat)) : ∀ (m : List Oper) (k j : Nat), (upL E k m)[j]? = (m[j]?).map (upE E (k + j))
  | [], _, _ => by simp [upL]
  | o :: m, k, 0 => by simp [upL]
  | o :: m, k, j + 1 => by
    simp only [upL, List.getElem?_cons_succ]
    rw [upL_get E m (k + 1) j, show k + 1 + j = k + (j + 1) by omega]
theorem addE_drop (E : List (Nat × Nat)) (n : Nat) : (addE E l).drop n = upL E n (l.drop n) := by
  apply List.ext_getElem?
  intro j
  rw [List.getElem?_drop, addE_get, upL_get, List.getElem?_drop]
theorem wpList_addE (E : List (Nat × Nat)) : ∀ (m : List Oper) (k : Nat) (a : Act) (w : World), wpList P l.toArray Q m a w → wpList P (addE E l).toArray Q (upL E k m) a w
  | [], _, _, _, h => h
  | o :: m, k, a, w, h => by
    unfold wpList at h
    unfold upL wpList
    rw [upE_wanted, addE_yielded]
    split
    · rename_i hw
      rw [if_pos hw] at h
      refine h.imp (fun h => ?_) id
      rw [upE_wp]
      exact Oper.wp_mono (fun a w h => wpList_addE E m (k + 1) a w h) h
    · rename_i hw
      rw [if_neg hw] at h
      exact wpList_addE E m (k + 1) _ w h
/-- the law of the boxes, at a region with edges added -/
theorem wp_region_layE {id : Nat} {a : Act} {w : World} (E : List (Nat × Nat)) (n : Nat) (r : List (Bool × Nat)) (A : List Lay) (hm : P.follows .mixedOrders = true) (hE : edgeB .any l E = true) (hB : layHeldB .any (addE E l).toArray n A r = true)
    (hrun : ∀ x ∈ A, ∀ o, l[x.op]? = some o → ∀ ρ w, (execOp ρ o).run P w = .ok (.value (.pointer (some ⟨w.heap.size, 0, none⟩))) (w.alloc (.cells x.cs x.ty)))
    (h : ∀ w1, Rb w.drew w1 → wpHeldR P l.toArray (NoPanic Q) w.drew (fun a' w' => ∀ bl w1, Rb w' w1 → (∀ x ∈ A, (bl x.op).isSome = true) → Good A w.drew bl w1 → wpList P l.toArray (NoPanic Q) (l.drop n) (acts A bl a') w1) (pick l r) a w1) :
    (Code.region id l.toArray true).wp P Q a w := by
  refine wp_region_noPanic (wp_region_any hm (wpAny_addE hE (fun _ _ _ _ _ h => h) _ _ _ _ CInv.start ?_))
  have H := lay_any (P := P) (Q := Q) (a := a) (w := w) (l := addE E l) n r A hB (fun x hx o ho ρ w => by
    rw [addE_get] at ho
    cases h1 : l[x.op]? with
    | none => rw [h1] at ho; cases ho
    | some o1 =>
      rw [h1] at ho
      obtain rfl : upE E x.op o1 = o := Option.some.inj ho
      exact hrun x hx o1 h1 ρ w) (fun w1 hw1 => wpHeldR_addE (fun a' w' hL bl w1 hR hb hG => by
      rw [addE_drop]
      exact wpList_addE E _ n _ _ (hL bl w1 hR hb hG)) r a w1 (h w1 hw1))
  have e : (addE E l).toArray.size = l.toArray.size := by simpa using addE_len E l
  rw [e] at H
  exact H
end
end Alg
