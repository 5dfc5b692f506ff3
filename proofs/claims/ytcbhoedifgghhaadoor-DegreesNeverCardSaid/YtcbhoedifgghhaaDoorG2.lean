/- One boxed variable beside rows that grow; the lengths of a gcd with its cofactors. The parts by degrees: what the loops keep, what the calls hand back. A law of a range over a function whose iterator writes its own variables between two rounds: the iterator's word is asked at the caller's own invariant. The parts by degrees, found by an iterator: what its variables and the caller's hold between two rounds. -/
import Derived.Test.YtcbhoedifgghhaaDoorB11
import Derived.Test.YtcbhoedifgghhaaDoorL2
import Derived.RangeFuncNested
import Derived.RangeFuncBound
import Derived.RangeFuncCalls
import Derived.RangeFuncLeaves
import Derived.OwnWalkIn
import Derived.Deep.AppendLies
section
open Alg Go Go.RowKit
namespace Alg
open Poly
theorem Box.grown {W W' : World} {b : Nat} {cs : Array Value} {row : Option Nat} (h : Box W b cs) (hg : W.grownBy W' row) (hne : row ≠ some b) : Box W' b cs where
  lt := Nat.lt_of_lt_of_le h.lt hg.size
  cell := fun i v h1 => hg.cell (h.cell i v h1) (fun e => hne e.symm)
  frozen := fun i => (World.frozen?_of_block (hg.block b h.lt (fun e => hne e.symm))).trans (h.frozen i)
theorem Box.third {W : World} {b : Nat} {x y z : Value} (h : Box W b #[x, y, z]) (u : Value) : Box (W.setCell ⟨b, 2, none⟩ u) b #[x, y, u] := h.put 2 (by simp) u
theorem SlF.grown {f : Nat → Value} {w w' : World} {row : Option Nat} {b off n cap : Nat} {l : List Nat} (h : SlF f w (some ⟨b, off, none⟩) n cap l) (hg : w.grownBy w' row) (hne : row ≠ some b) : SlF f w' (some ⟨b, off, none⟩) n cap l where
  len := h.len
  le := h.le
  cap := h.cap
  rd := by
    rcases h.rd with h0 | ⟨b', off', ha, hc⟩
    · exact Or.inl h0
    · obtain ⟨rfl, rfl⟩ : b = b' ∧ off = off' := by simpa using ha
      exact Or.inr ⟨b, off, rfl, fun i hi => hg.cell (hc i hi) (fun e => hne e.symm)⟩
theorem SlF.setCell {f : Nat → Value} {w : World} {b off n cap : Nat} {l : List Nat} (h : SlF f w (some ⟨b, off, none⟩) n cap l) {r : Nat} (hne : b ≠ r) (i : Nat) (u : Value) : SlF f (w.setCell ⟨r, i, none⟩ u) (some ⟨b, off, none⟩) n cap l where
  len := h.len
  le := h.le
  cap := h.cap
  rd := by
    rcases h.rd with h0 | ⟨b', off', ha, hc⟩
    · exact Or.inl h0
    · obtain ⟨rfl, rfl⟩ : b = b' ∧ off = off' := by simpa using ha
      exact Or.inr ⟨b, off, rfl, fun j hj => (World.cell?_of_block (w := w) (Below.heap_setCell w ⟨r, i, none⟩ u _ (by show b ≠ r; exact hne))).trans (hc j hj)⟩
theorem gloop_lens {p N : Nat} : ∀ (k : Nat) (x y : T3), GLen N x y → (gloop p k x y).G.length ≤ N ∧ (gloop p k x y).U.length ≤ N ∧ (gloop p k x y).V.length ≤ N
  | 0, x, y, h => by
    have h1 := h.a
    have h2 := h.b
    have h3 := h.c
    unfold gloop
    exact ⟨by omega, by omega, by omega⟩
  | k + 1, x, y, h => by
    unfold gloop
    split
    · have h1 := h.a
      have h2 := h.b
      have h3 := h.c
      exact ⟨by omega, by omega, by omega⟩
    · rename_i h0
      exact gloop_lens k _ _ (h.step h0)
theorem gcdL_lens (p : Nat) (f g : List Nat) : (gcdL p f g).G.length ≤ f.length + g.length + 1 ∧ (gcdL p f g).U.length ≤ f.length + g.length + 1 ∧ (gcdL p f g).V.length ≤ f.length + g.length + 1 := by
  have h : (gcd0 p f g).G.length ≤ f.length + g.length + 1 ∧ (gcd0 p f g).U.length ≤ f.length + g.length + 1 ∧ (gcd0 p f g).V.length ≤ f.length + g.length + 1 := by
    unfold gcd0
    apply gloop_lens
    refine ⟨?_, ?_, ?_, ?_, ?_, ?_⟩ <;> simp <;> omega
  unfold gcdL gfin
  split
  · exact h
  · have a1 := fun c l => scL_len p c l
    exact ⟨Nat.le_trans (a1 _ _) h.1, Nat.le_trans (a1 _ _) h.2.1, Nat.le_trans (a1 _ _) h.2.2⟩
/-- the error of Prove, the answer of Prove -/
noncomputable def proveE (p : Nat) (l : List Nat) : Int := if monB l = true ∧ 2 ≤ l.length then (if holdsIB p l (proveW p l) = true then 0 else 5) else 1
def RetPI (P : Nat) (l : List Nat) (L : List PB) (err : Int) (w : World) (e : Ending) (w' : World) : Prop :=
  ∃ a n cap wa wn wcap, e = .returned (.tuple #[.agg #[.int .u32 (P : Int), .slice a n cap, .slice wa wn wcap], .int .i64 err]) ∧ Sl w' a n cap l ∧ SlB w' wa wn wcap L ∧ Below w.heap.size w w'
def RetPv (p : Nat) (l : List Nat) (w : World) (e : Ending) (w' : World) : Prop :=
  (proveE p l = 0 ∧ RetPI p l (proveW p l) 0 w e w') ∨ (proveE p l ≠ 0 ∧ RetPI 0 [] [] (proveE p l) w e w')
theorem proveW_few {p : Nat} {l : List Nat} (h : l.length ≤ 1000) (ha : ∀ k, (apL p l k).length ≤ 1000) : FewB (proveW p l) := fun x hx => by
  obtain ⟨q, _, rfl⟩ := List.mem_map.1 hx
  have := gcdL_lens p (apL p l ((l.length - 1) / q)) l
  have := ha ((l.length - 1) / q)
  refine ⟨?_, ?_, ?_⟩ <;> simp only [PB.ofT] <;> omega
theorem SlB.nil (w : World) : SlB w none 0 0 [] := ⟨rfl, Nat.le_refl _, by omega, Or.inl rfl⟩
theorem take_map_succ' {α : Type} (f : Nat → α) (l : List Nat) (j : Nat) (h : j < l.length) : (l.take (j + 1)).map f = (l.take j).map f ++ [f (nth l j)] := by
  rw [List.take_add_one, List.getElem?_eq_getElem h, List.map_append]
  simp [nth, List.getD_eq_getElem?_getD, h]
end Alg
end
section
open Alg Go Go.RowKit
namespace Alg
open Poly
/-- the call hands back a slice of polynomials and an error's number -/
def RetPL (L : List (Nat × List Nat)) (err : Int) (w : World) (e : Ending) (w' : World) : Prop :=
  ∃ a n cap, e = .returned (.tuple #[.slice a n cap, .int .i64 err]) ∧ SlK kPoly w' a n cap L ∧ Below w.heap.size w w'
/-- the first i parts -/
def partsL (p : Nat) (f : List Nat) (i : Nat) : List (Nat × List Nat) := (List.range i).map fun j => (p, gP p (rP p f j) (j + 1))
/-- there are i parts -/
structure PtsN (p : Nat) (f : List Nat) (i : Nat) : Prop where
  more : ∀ j, j < i → 1 < (rP p f j).length
  done : (rP p f i).length ≤ 1
def okParts (p : Nat) (f : List Nat) : Prop := monB f = true ∧ (gcdL p f (dfL p f)).G.length = 1
def RetPts (p : Nat) (f : List Nat) (w : World) (e : Ending) (w' : World) : Prop :=
  (okParts p f ∧ ∃ i, PtsN p f i ∧ RetPL (partsL p f i) 0 w e w') ∨ (¬ okParts p f ∧ RetPL [] 1 w e w')
theorem PtsN.unique {p : Nat} {f : List Nat} {i j : Nat} (h : PtsN p f i) (k : PtsN p f j) : i = j := by
  rcases Nat.lt_trichotomy i j with h1 | h1 | h1
  · have := k.more i h1; have := h.done; omega
  · exact h1
  · have := h.more j h1; have := k.done; omega
theorem partsL_succ (p : Nat) (f : List Nat) (i : Nat) : partsL p f (i + 1) = partsL p f i ++ [(p, gP p (rP p f i) (i + 1))] := by
  unfold partsL; rw [List.range_succ, List.map_append]; rfl
theorem partsL_len (p : Nat) (f : List Nat) (i : Nat) : (partsL p f i).length = i := by simp [partsL]
theorem okParts.mon {p : Nat} {f : List Nat} (h : okParts p f) : MonL f := monB_true.1 h.1
theorem okParts.all {p : Nat} [NeZero p] {f : List Nat} (h : okParts p f) (hp : IsPr p) (cf : Canon p f) (i : Nat) : PtI p f i :=
  PtI.all hp cf h.mon (free_sqf hp cf h.mon.ne h.2) i
/-- what else lies in memory follows when an element is appended -/
theorem Kind.follow {α : Type} (k : Kind α) {w' w2 : World} {v : Value} {R : List Nat} {o : Obj} {g m c : Nat} {vs : List Value} {y : α} (hy : k.ok w' (v.ownBlock.toList ++ R) vs y) (hgrow : (w'.alloc o).grownBy w2 v.ownBlock)
    (hat : v.ownBlock = some g ∨ g = w'.heap.size + 1) : k.ok w2 ((Value.slice (some ⟨g, 0, none⟩) m c).ownBlock.toList ++ R) vs y := by
  have hba : Below w'.heap.size w' (w'.alloc o) := (Below.refl _ _).alloc (Nat.le_refl _) o
  have hy2 : k.ok w' (g :: (v.ownBlock.toList ++ R)) vs y := k.more hy fun r hr => by
    rcases List.mem_cons.1 hr with h5 | h5
    · rcases hat with h6 | h6
      · left; rw [h5, h6]; simp
      · right; omega
    · exact Or.inl h5
  have h5 := k.grown (k.mono hy2 hba) hgrow (fun r hr => by rw [hr]; simp)
  refine k.more h5 fun r hr => ?_
  left
  rcases List.mem_append.1 hr with h6 | h6
  · have : r = g := by simpa [Value.ownBlock] using h6
    rw [this]; exact List.mem_cons_self ..
  · exact List.mem_cons_of_mem _ (List.mem_append_right _ h6)
theorem SlK.nil {α : Type} (k : Kind α) (w : World) : SlK k w none 0 0 [] := ⟨rfl, Nat.le_refl _, by omega, Or.inl rfl⟩
theorem RetPL.nil {w W : World} (hb : Below w.heap.size w W) (err : Int) : RetPL [] err w (.returned (.tuple #[.slice none 0 0, .int .i64 err])) W := ⟨_, _, _, rfl, SlK.nil _ _, hb⟩
theorem kPoly_sl {w : World} {R : List Nat} {p : Nat} {a : Option Addr} {n c : Nat} {l : List Nat} (h : kPoly.ok w R [.int .u32 (p : Int), .slice a n c] (p, l)) : Sl w a n c l ∧ Offs R a n := by
  obtain ⟨a', n', c', e, s, o⟩ := h
  simp only [List.cons.injEq, Value.slice.injEq, and_true, true_and] at e
  obtain ⟨rfl, rfl, rfl⟩ := e
  exact ⟨s, o⟩
theorem kPoly_mk {w : World} {R : List Nat} {p : Nat} {a : Option Addr} {n c : Nat} {l : List Nat} (s : Sl w a n c l) (o : Offs R a n) : kPoly.ok w R [.int .u32 (p : Int), .slice a n c] (p, l) := ⟨a, n, c, rfl, s, o⟩
end Alg
end
section
open Go Go.RowKit
namespace Alg
variable {F : Fence} {n : Nat} {P : Program}
/-- the body of a round goes on -/
def postS (B : Nat) (R : World → Prop) (W : World) : Exit → Act → World → Prop
  | .normal, _, W' => KeepsFrom B W W' ∧ R W'
  | .ret, _, _ => False
  | .exit _, _, _ => False
  | .goto _, _, _ => False
  | .panic _, _, _ => False
  | .outgrown, _, _ => False
theorem wpIn_rangeFunc_ownS {α σ : Type} {g : Operand} {ps : Array Tmp} {assign body : Code} {Q : Exit → Act → World → Prop} {a : Act} {w : World}
    (hro : F.round = none) (h1 : 1 ≤ n) {gf : Nat} {lb : Array Value} (hg : a.eval g = .func (.func gf) #[] lb) (hFg : F.fn gf) (eg : ∀ args w, (callFunc gf args).run P w = .ok (.enter gf args) w)
    {encs : α → Array Value} (hps : ∀ x, (encs x).size = ps.size)
    (R0 Fin : World → Prop) (Rdy : σ → α → World → Prop) (Wnt : σ → World → Prop) (Asg : σ → α → Act → World → Prop)
    (oR0 : OwnFrom w.heap.size (fun (_ : Unit) W => R0 W)) (oFin : OwnFrom w.heap.size (fun (_ : Unit) W => Fin W)) (oWnt : OwnFrom w.heap.size Wnt) (oAsg : ∀ s x a', OwnFrom w.heap.size (fun (_ : Unit) W => Asg s x a' W))
    (hseq : ∀ (l : Nat) (Lp : World → Prop), (∀ W W', Lp W → KeepsFrom w.heap.size W W' → Lp W') →
      (∀ s x W1, Rdy s x W1 → Lp W1 → YieldAt F (n - 1 - 1) P l (encs x) W1 fun e W' => e = .returned (.bool true) ∧ Wnt s W' ∧ Lp W') →
      ∀ W1, R0 W1 → Lp W1 → CallsIn F (n - 1) P gf (#[.func (.yield l) #[] #[]] ++ lb) W1 fun e W' => (∃ v, e = .returned v) ∧ Fin W' ∧ Lp W')
    (h0 : R0 w)
    (hassign : ∀ (l : Nat) (s : σ) (x : α) (W : World) (K : Act → World → Prop), Rdy s x W → w.heap.size ≤ W.heap.size → (∀ a' W', KeepsFrom w.heap.size W W' → Asg s x a' W' → K a' W') →
      assign.wpIn (F.inRound l) (n - 1 - 1) P (Exit.then K (fun _ _ _ => False)) { tmps := (ps.zip (encs x)).foldl (fun t (p, v) => t.setIfInBounds p v) a.tmps, defers := [] } W)
    (hbody : ∀ (l : Nat) (s : σ) (x : α) (a' : Act) (W : World), w.heap.size ≤ W.heap.size → Asg s x a' W → body.wpIn (F.inRound l) (n - 1 - 1) P (postS w.heap.size (Wnt s) W) a' W)
    (hdone : ∀ (D : Nat) (W : World), w.heap.size ≤ D → Fin W → W.heap[D]? = some (.deferred (some [])) → Q .normal { a with defers := { target := .collected D, args := #[] } :: a.defers } W) :
    (Code.rangeFunc g ps assign body).wpIn F n P Q a w := by
  refine wpIn_rangeFunc ?_
  intro fn hfn
  rw [hro]
  obtain ⟨rec, hrec⟩ : ∃ rec : LoopState → Option Code → Loop, rec = fun st pe => { state := st, pending := pe, fn, tmps := a.tmps, params := ps, assign, body, defers := w.heap.size } := ⟨_, rfl⟩
  obtain ⟨W1, hW1⟩ : ∃ W1, (w.alloc (.deferred (some []))).alloc (.loop (rec .ready none)) = W1 := ⟨_, rfl⟩
  have hL1 : W1.heap[w.heap.size + 1]? = some (.loop (rec .ready none)) := by
    rw [← hW1]; have := World.alloc_heap_new (w.alloc (.deferred (some []))) (.loop (rec .ready none)); rwa [World.size_alloc] at this
  have hK1 : W1.heap[w.heap.size]? = some (.deferred (some [])) := by
    rw [← hW1]; exact (Below.heap_alloc _ _ _ (by simp)).trans (World.alloc_heap_new w _)
  have hI1 : R0 W1 := by rw [← hW1]; exact oR0.alloc (s := ()) _ (oR0.alloc (s := ()) _ h0)
  refine ⟨w.heap.size + 1, [{ target := .collected w.heap.size, args := #[] }], W1, { target := .fn (.func gf) lb, args := #[.func (.yield (w.heap.size + 1)) #[] #[]] }, W1, gf,
    #[.func (.yield (w.heap.size + 1)) #[] #[]] ++ lb, W1, ?_, ?_, ?_, ?_, fun _ => h1, ?_⟩
  · rw [← hW1, hrec]; exact run_enterLoop_outer _ _ _ _ _
  · simp only [resolve, hg]
    simp [go_sem]
  · intro f' hf'; simp [Target.leads] at hf'; subst hf'; exact hFg
  · simp [invoke, go_sem, eg]
  · refine (hseq (w.heap.size + 1) (fun W => W.heap[w.heap.size + 1]? = some (.loop (rec .ready none)) ∧ W.heap[w.heap.size]? = some (.deferred (some [])))
      (fun W W' hs hk => ⟨hk.same _ _ (by omega) hs.1 rfl, hk.same _ _ (Nat.le_refl _) hs.2 rfl⟩) ?_ W1 hI1 ⟨hL1, hK1⟩).mono ?_
    · rintro s x W hi ⟨hl, hk⟩
      have hlt : w.heap.size + 1 < W.heap.size := (Array.getElem?_eq_some_iff.1 hl).1
      have hy := run_yield (P := P) (args := encs x) hl (by rw [hrec]; exact hps x)
      rw [hrec] at hy
      refine ⟨fn, _, assign, body, hy, roundIn_of_wpIn hfn (hassign _ s x W _ hi (by omega) ?_)⟩
      clear hy
      intro a' Wa hkfa hax
      replace hl := hkfa.same _ _ (by omega) hl rfl
      replace hk := hkfa.same _ _ (Nat.le_refl _) hk rfl
      replace hlt : w.heap.size + 1 < Wa.heap.size := (Array.getElem?_eq_some_iff.1 hl).1
      clear hi
      revert hkfa
      generalize W = Wb
      intro hkfa
      obtain ⟨W, rfl⟩ : ∃ W, W = Wa := ⟨_, rfl⟩
      refine ⟨_, run_beginRound hl (by rw [hrec]), ?_⟩
      have hl2 : (W.putObj (w.heap.size + 1) (.loop { rec .ready none with state := .busy })).heap[w.heap.size + 1]? = some (.loop { rec .ready none with state := .busy }) := World.putObj_heap_same hlt
      have hk2 : (W.putObj (w.heap.size + 1) (.loop { rec .ready none with state := .busy })).heap[w.heap.size]? = some (.deferred (some [])) := (World.putObj_heap_other (by omega)).trans hk
      refine wpIn_mono (hbody _ s x a' _ (Nat.le_trans (by omega) (grownBy_putObj' _ _ _).size) ((oAsg s x a').putObj (s := ()) _ hax (by omega) hl rfl)) ?_
      rintro e a3 W3 hp
      cases e with
      | normal =>
        obtain ⟨hk3, hi3⟩ := hp
        have hl3 := hk3.same _ _ (by omega) hl2 rfl
        have hr := run_endRound (P := P) none hl3
        rw [hrec] at hr
        have hl3' := hl3
        rw [hrec] at hl3'
        refine ⟨_, _, hr, rfl, oWnt.putObj _ hi3 (by omega) hl3 rfl, ?_, (World.putObj_heap_other (by omega)).trans (hk3.same _ _ (Nat.le_refl _) hk2 rfl)⟩
        rw [hrec]
        exact World.putObj_heap_same (Array.getElem?_eq_some_iff.1 hl3).1
      | ret => exact hp.elim
      | exit id => exact hp.elim
      | goto t => exact hp.elim
      | panic ch => exact hp.elim
      | outgrown => exact hp.elim
    · rintro e W2 ⟨⟨v, rfl⟩, hi, hl, hk⟩
      exact ⟨none, _, by have := run_endLoop (P := P) hl (by rw [hrec]; simp); rw [hrec] at this; exact this, hdone _ _ (Nat.le_refl _) (oFin.putObj (s := ()) _ hi (by omega) hl rfl) ((World.putObj_heap_other (by omega)).trans hk)⟩
end Alg
end
section
open Alg Go Go.RowKit
namespace Alg
open Poly
theorem keeps_below {B : Nat} {W W' : World} (h : Below W.heap.size W W') : KeepsFrom B W W' :=
  ⟨h.size, fun k _ _ hk _ => (h.block k (Array.getElem?_eq_some_iff.1 hk).1).trans hk⟩
theorem keeps_set {B : Nat} (W : World) (a : Addr) (u : Value) : KeepsFrom B W (W.setCell a u) := (KeepsOthers.setCell _ _ _).from _
/-- what an append inside a fence hands back lies in the row as it was, or in a new block -/
theorem wpListIn_append_lies {F : Fence} {nF : Nat} {P : Program} {ops : Array Oper} {rest : List Oper} {o : Oper} {a : Act} {Q : Exit → Act → World → Prop} (w : World) (hgd : o.guard = none) (s x : Operand) (t : TypeId)
    (ho : o.op = .call { callee := .builtin .append, args := #[s, x], argTypes := #[t, t] })
    (base : Nat) (e : TypeId) (i : TypeInfo) (z : Value) (size bytes : Nat) (ht : P.underlying t = some (.slice e)) (hi : P.info? e = some i) (hz : i.zero = some z)
    (hsize : i.size = size) (hby : i.bytes = bytes) (hzs : z.cells.size = size) (hsz : 0 < size)
    (v : Value) (n : Nat) (xs : List Value) (hs : a.eval s = v) (hown : w.ownsRow base e size v n xs)
    (ad : Addr) (m c : Nat) (news : List Value) (hx : a.eval x = .slice (some ad) m c) (hl : news.length = m * size) (hnews : ∀ j u, news[j]? = some u → w.cell? (ad.add j) = some u) (h1 : ∀ u ∈ news, u.oneCell' = true)
    (hm : 0 < m) (h63 : n + m ≤ maxLen) (hbytes : (n + m) * bytes ≤ 140737488355328) (hbase : base ≤ w.heap.size) (H : Nat) (hH : w.heap.size = H)
    (h : ∀ g cap w', w'.ownsRow base e size (.slice (some ⟨g, 0, none⟩) (n + m) cap) (n + m) (xs ++ news) → w.grownBy w' v.ownBlock → (v.ownBlock = some g ∨ g = H) → g < w'.heap.size → wpListIn F nF P ops Q rest (a.put o.dst (.slice (some ⟨g, 0, none⟩) (n + m) cap)) w') :
    wpListIn F nF P ops Q (o :: rest) a w := by
  refine wpListIn_plain hgd fun K hK => ?_
  obtain ⟨g, cap, w', hr, h2, h3, h4, h5⟩ := run_append_lies (P := P) w t o.type base e i z size bytes ht hi hz hsize hby hzs hsz v n xs hown ad m c news hl hnews h1 hm h63 hbytes hbase H hH
  unfold Oper.wpIn
  refine ⟨by simp [Oper.about, ho, resolve, Target.leads, Sem.run_pure], ?_⟩
  rw [Oper.semAt_plain F _ _ (by rw [ho]; intro c hc'; cases hc')]
  simp [execOp, ho, resolve, invoke, builtin, hs, hx, hr, Result.andThen]
  exact hK _ _ (h g cap w' h2 h3 h4 h5)
section
variable {W W' : World} {row : Option Nat} (hg : W.grownBy W' row) (hr : ∀ r, row = some r → ∃ o : Obj, W.heap[r]? = some o ∧ o.isCells = false)
include hg hr
theorem Sl.keptN {a : Option Addr} {n cap : Nat} {l : List Nat} (h : Sl W a n cap l) : Sl W' a n cap l where
  len := h.len
  le := h.le
  cap := h.cap
  lt := h.lt
  rd := by
    rcases h.rd with h0 | ⟨b, off, ha, hc⟩
    · exact Or.inl h0
    · exact Or.inr ⟨b, off, ha, fun i hi => cell_kept (hc i hi) hg hr⟩
theorem kPoly_keptN {R : List Nat} {vs : List Value} {x : Nat × List Nat} (h : kPoly.ok W R vs x) : kPoly.ok W' R vs x := by
  obtain ⟨a, n, c, h1, s, o⟩ := h
  exact ⟨a, n, c, h1, s.keptN hg hr, o⟩
theorem Box.keptN {b : Nat} {v : Value} {cs : List Value} (h : Box W b (v :: cs).toArray) : Box W' b (v :: cs).toArray := by
  have hc := h.cell 0 v (by simp)
  refine h.grown hg fun e => ?_
  obtain ⟨o, ho, hn⟩ := hr b e
  obtain ⟨o', ho', hn'⟩ := cells_of_cell hc
  rw [show (⟨b, 0, none⟩ : Addr).block = b from rfl, ho] at ho'
  cases ho'
  rw [hn] at hn'; cases hn'
theorem GrK.keptN {e : TypeId} {B : Nat} {R : List Nat} {v : Value} {n : Nat} {L : List (Nat × List Nat)} (h : GrK kPoly W e B R v n L) : GrK kPoly W' e B R v n L := by
  obtain ⟨vss, h1, h2, h3, h4⟩ := h
  have h3' := h3
  refine ⟨vss, h1, h2, h3.kept hg ?_, fun i hi hi2 => kPoly_keptN hg hr (h4 i hi hi2)⟩
  rcases h3'.2 with ⟨rfl, _⟩ | ⟨g, cap, cur, rfl, _, hgg, _⟩
  · exact Or.inl rfl
  · refine Or.inr fun e => ?_
    obtain ⟨o, ho, hn⟩ := hr g (by simpa [Value.ownBlock] using e.symm)
    rw [hgg] at ho
    cases ho
    cases hn
end
/-- the variables of the iterator and of its caller -/
structure PSt (p : Nat) (fl : List Nat) (w : World) (T : TypeId) (bO bF bP i : Nat) (vv : Value) (ra : Option Addr) (rn rc : Nat) (rl : List Nat) (pa : Option Addr) (pn pc : Nat) (pl : List Nat) (W : World) : Prop where
  o1 : w.heap.size ≤ bO
  o2 : bO < bF
  o3 : bF < bP
  bo : Box W bO #[vv]
  bf : Box W bF #[.int .u32 (p : Int), .slice ra rn rc]
  bp : Box W bP #[.int .u32 (p : Int), .slice pa pn pc]
  g : GrK kPoly W T (bP + 1) [bO, bF, bP] vv i (partsL p fl i)
  kr : kPoly.ok W (vv.ownBlock.toList ++ [bO, bF, bP]) [.int .u32 (p : Int), .slice ra rn rc] (p, rl)
  kp : kPoly.ok W (vv.ownBlock.toList ++ [bO, bF, bP]) [.int .u32 (p : Int), .slice pa pn pc] (p, pl)
  below : Below w.heap.size w W
section
variable {p : Nat} {fl : List Nat} {w : World} {T : TypeId} {bO bF bP i : Nat} {vv : Value} {ra : Option Addr} {rn rc : Nat} {rl : List Nat} {pa : Option Addr} {pn pc : Nat} {pl : List Nat} {W : World}
theorem PSt.mono (h : PSt p fl w T bO bF bP i vv ra rn rc rl pa pn pc pl W) {W' : World} (hb : Below W.heap.size W W') : PSt p fl w T bO bF bP i vv ra rn rc rl pa pn pc pl W' :=
  ⟨h.o1, h.o2, h.o3, h.bo.mono hb, h.bf.mono hb, h.bp.mono hb, h.g.mono hb, kPoly.mono h.kr hb, kPoly.mono h.kp hb, bl h.below hb h.below.size⟩
theorem PSt.keptN (h : PSt p fl w T bO bF bP i vv ra rn rc rl pa pn pc pl W) {B : Nat} (hB : w.heap.size ≤ B) {W' : World} {row : Option Nat} (hg : W.grownBy W' row) (hr : ∀ r, row = some r → B ≤ r ∧ ∃ o : Obj, W.heap[r]? = some o ∧ o.isCells = false) :
    PSt p fl w T bO bF bP i vv ra rn rc rl pa pn pc pl W' :=
  have hr2 : ∀ r, row = some r → ∃ o : Obj, W.heap[r]? = some o ∧ o.isCells = false := fun r e => (hr r e).2
  ⟨h.o1, h.o2, h.o3, Box.keptN hg hr2 h.bo, Box.keptN hg hr2 h.bf, Box.keptN hg hr2 h.bp, GrK.keptN hg hr2 h.g, kPoly_keptN hg hr2 h.kr, kPoly_keptN hg hr2 h.kp,
    (ownFrom_below (β := Unit) (Nat.le_refl _) hB) () W W' row h.below hg hr⟩
theorem PSt.setP (h : PSt p fl w T bO bF bP i vv ra rn rc rl pa pn pc pl W) {na : Option Addr} {nn nc : Nat} {nl : List Nat} (hk : kPoly.ok W (vv.ownBlock.toList ++ [bO, bF, bP]) [.int .u32 (p : Int), .slice na nn nc] (p, nl)) :
    PSt p fl w T bO bF bP i vv ra rn rc rl na nn nc nl ((W.setCell ⟨bP, 0, none⟩ (.int .u32 (p : Int))).setCell ⟨bP, 1, none⟩ (.slice na nn nc)) := by
  have o1 := h.o1
  have o2 := h.o2
  have o3 := h.o3
  exact ⟨o1, o2, o3, (h.bo.other 0 (by omega) _).other 1 (by omega) _, (h.bf.other 0 (by omega) _).other 1 (by omega) _, h.bp.put2 _ _,
    (h.g.set (r := bP) (by simp) (by omega) 0 _).set (r := bP) (by simp) (by omega) 1 _, kPoly.set (kPoly.set h.kr (r := bP) (by simp) 0 _) (r := bP) (by simp) 1 _, kPoly.set (kPoly.set hk (r := bP) (by simp) 0 _) (r := bP) (by simp) 1 _,
    (h.below.setCell (p := ⟨bP, 0, none⟩) (by show w.heap.size ≤ bP; omega) _).setCell (p := ⟨bP, 1, none⟩) (by show w.heap.size ≤ bP; omega) _⟩
theorem PSt.setF (h : PSt p fl w T bO bF bP i vv ra rn rc rl pa pn pc pl W) {na : Option Addr} {nn nc : Nat} {nl : List Nat} (hk : kPoly.ok W (vv.ownBlock.toList ++ [bO, bF, bP]) [.int .u32 (p : Int), .slice na nn nc] (p, nl)) :
    PSt p fl w T bO bF bP i vv na nn nc nl pa pn pc pl ((W.setCell ⟨bF, 0, none⟩ (.int .u32 (p : Int))).setCell ⟨bF, 1, none⟩ (.slice na nn nc)) := by
  have o1 := h.o1
  have o2 := h.o2
  have o3 := h.o3
  exact ⟨o1, o2, o3, (h.bo.other 0 (by omega) _).other 1 (by omega) _, h.bf.put2 _ _, (h.bp.other 0 (by omega) _).other 1 (by omega) _,
    (h.g.set (r := bF) (by simp) (by omega) 0 _).set (r := bF) (by simp) (by omega) 1 _, kPoly.set (kPoly.set hk (r := bF) (by simp) 0 _) (r := bF) (by simp) 1 _, kPoly.set (kPoly.set h.kp (r := bF) (by simp) 0 _) (r := bF) (by simp) 1 _,
    (h.below.setCell (p := ⟨bF, 0, none⟩) (by show w.heap.size ≤ bF; omega) _).setCell (p := ⟨bF, 1, none⟩) (by show w.heap.size ≤ bF; omega) _⟩
/-- one part more -/
theorem PSt.push (h : PSt p fl w T bO bF bP i vv ra rn rc rl pa pn pc pl W) {a : Option Addr} {n c : Nat} (hk : kPoly.ok W (vv.ownBlock.toList ++ [bO, bF, bP]) [.int .u32 (p : Int), .slice a n c] (p, gP p (rP p fl i) (i + 1))) (B : Nat) :
    ∃ xs, W.ownsRow (bP + 1) T 2 vv i xs ∧ ∀ (w9 : World) (o : Obj) (g c' : Nat), w9.ownsRow (bP + 1) T 2 (.slice (some ⟨g, 0, none⟩) (i + 1) c') (i + 1) (xs ++ [.int .u32 (p : Int), .slice a n c]) → (W.alloc o).grownBy w9 vv.ownBlock → (vv.ownBlock = some g ∨ g = W.heap.size + 1) →
      (Box w9 bO #[vv] ∧ KeepsFrom B W (w9.setCell ⟨bO, 0, none⟩ (.slice (some ⟨g, 0, none⟩) (i + 1) c'))) ∧ PSt p fl w T bO bF bP (i + 1) (.slice (some ⟨g, 0, none⟩) (i + 1) c') ra rn rc rl pa pn pc pl (w9.setCell ⟨bO, 0, none⟩ (.slice (some ⟨g, 0, none⟩) (i + 1) c')) := by
  have o1 := h.o1
  have o2 := h.o2
  have o3 := h.o3
  obtain ⟨xs, hown, hgrow⟩ := h.g.grow
  refine ⟨xs, hown, fun w9 o g c' hown9 hgrow9 hat9 => ?_⟩
  have hba : Below W.heap.size W (W.alloc o) := (Below.refl _ W).alloc (Nat.le_refl _) o
  have hv := h.g.row
  have hne : ∀ b, b ≤ bP → vv.ownBlock ≠ some b := fun b hb e => by have := (hv b e).1; omega
  have xO := (h.bo.alloc o).grown hgrow9 (hne bO (by omega))
  have xF := (h.bf.alloc o).grown hgrow9 (hne bF (by omega))
  have xP := (h.bp.alloc o).grown hgrow9 (hne bP (by omega))
  have hG9 := hgrow W w9 [.int .u32 (p : Int), .slice a n c] _ o g c' (Below.refl _ _) hk hown9 hgrow9 hat9
  have kr9 := kPoly.follow (m := i + 1) (c := c') h.kr hgrow9 hat9
  have kp9 := kPoly.follow (m := i + 1) (c := c') h.kp hgrow9 hat9
  have hb9 : Below w.heap.size w w9 := (h.below.alloc h.below.size o).grown hgrow9 (Nat.le_trans h.below.size hba.size) (fun k e => by have := (hv k e).1; omega)
  have hG := hG9.set (r := bO) (by simp) (by omega) 0 (.slice (some ⟨g, 0, none⟩) (i + 1) c')
  rw [← partsL_succ] at hG
  have hkeep : KeepsFrom B (W.alloc o) w9 := ⟨hgrow9.size, fun k ob _ hkk hc => by
    refine (hgrow9.block k (Array.getElem?_eq_some_iff.1 hkk).1 fun e => ?_).trans hkk
    obtain ⟨_, _, _, h3, _⟩ := h.g
    rcases h3.2 with ⟨rfl, _⟩ | ⟨g1, cap, cur, rfl, _, hgg, _⟩
    · simp [Value.ownBlock] at e
    · have e1 : k = g1 := by simpa [Value.ownBlock] using e
      subst e1
      have h5 := hba.block k (Array.getElem?_eq_some_iff.1 hgg).1
      rw [hgg, hkk] at h5
      cases h5
      cases hc⟩
  exact ⟨⟨xO, ((keeps_below hba).trans hkeep).trans (keeps_set _ _ _)⟩, o1, o2, o3, xO.put 0 (by simp) _, xF.other 0 (by omega) _, xP.other 0 (by omega) _, hG, kPoly.set kr9 (r := bO) (by simp) 0 _, kPoly.set kp9 (r := bO) (by simp) 0 _,
    hb9.setCell (p := ⟨bO, 0, none⟩) (by show w.heap.size ≤ bO; omega) _⟩
/-- what was handed back in W lies in none of the blocks that lay ahead of it -/
theorem PSt.offs (h : PSt p fl w T bO bF bP i vv ra rn rc rl pa pn pc pl W) {a : Option Addr} {n : Nat} (hp : Prov W [] a n) : Offs (vv.ownBlock.toList ++ [bO, bF, bP]) a n := by
  have b1 := h.bo.lt
  have b2 := h.bf.lt
  have b3 := h.bp.lt
  refine Offs.fresh hp fun r hr => ?_
  rcases List.mem_append.1 hr with h4 | h4
  · exact (h.g.row r (by simpa using h4)).2
  · simp only [List.mem_cons, List.not_mem_nil, or_false] at h4
    rcases h4 with rfl | rfl | rfl
    · exact b1
    · exact b2
    · exact b3
end
section
variable (p : Nat) [NeZero p] (fl : List Nat) (w : World) (T : TypeId) (bO bF : Nat)
/-- i parts have come, and are laid down -/
def PWnt (s : Nat × Nat) (W : World) : Prop :=
  ∃ vv ra rn rc pa pn pc pl, PSt p fl w T bO bF s.2 s.1 vv ra rn rc (rP p fl s.1) pa pn pc pl W ∧ PwI p (rP p fl s.1) pl s.1 ∧ pl.length ≤ fl.length + 2 ∧ (∀ k, k < s.1 → 1 < (rP p fl k).length)
/-- the next one is ready -/
def PRdy (s : Nat × Nat) (x : Option Addr × Nat × Nat) (W : World) : Prop :=
  ∃ vv ra rn rc pa pn pc pl, PSt p fl w T bO bF s.2 s.1 vv ra rn rc (rP p fl (s.1 + 1)) pa pn pc pl W ∧ PwI p (rP p fl (s.1 + 1)) pl (s.1 + 1) ∧ pl.length ≤ fl.length + 2 ∧ (∀ k, k < s.1 + 1 → 1 < (rP p fl k).length) ∧
    kPoly.ok W (vv.ownBlock.toList ++ [bO, bF, s.2]) [.int .u32 (p : Int), .slice x.1 x.2.1 x.2.2] (p, gP p (rP p fl s.1) (s.1 + 1))
/-- ahead of the first -/
def PR0 (fa : Option Addr) (fn fcap : Nat) (W : World) : Prop := Box W bO #[.slice none 0 0] ∧ Box W bF #[.int .u32 (p : Int), .slice fa fn fcap] ∧ Below w.heap.size w W
/-- behind the last -/
def PFin (W : World) : Prop := ∃ i bP, PWnt p fl w T bO bF (i, bP) W ∧ (rP p fl i).length ≤ 1
/-- the next one is laid in the loop's variable -/
def PAsg (mk : Nat → Option Addr × Nat × Nat → Act) (s : Nat × Nat) (x : Option Addr × Nat × Nat) (a : Act) (W : World) : Prop :=
  ∃ bG, a = mk bG x ∧ Box W bG #[.int .u32 (p : Int), .slice x.1 x.2.1 x.2.2] ∧ PRdy p fl w T bO bF s x W
variable {p fl w T bO bF}
theorem PWnt.own {B : Nat} (hB : w.heap.size ≤ B) : OwnFrom B (PWnt p fl w T bO bF) := by
  rintro s W W' row ⟨vv, ra, rn, rc, pa, pn, pc, pl, h, h2⟩ hg hr
  exact ⟨vv, ra, rn, rc, pa, pn, pc, pl, h.keptN hB hg hr, h2⟩
theorem PRdy.own {B : Nat} (hB : w.heap.size ≤ B) (x : Option Addr × Nat × Nat) : OwnFrom B (fun s W => PRdy p fl w T bO bF s x W) := by
  rintro s W W' row ⟨vv, ra, rn, rc, pa, pn, pc, pl, h, h2, h3, h4, h5⟩ hg hr
  exact ⟨vv, ra, rn, rc, pa, pn, pc, pl, h.keptN hB hg hr, h2, h3, h4, kPoly_keptN hg (fun r e => (hr r e).2) h5⟩
omit [NeZero p] in
theorem PR0.own {B : Nat} (hB : w.heap.size ≤ B) (fa : Option Addr) (fn fcap : Nat) : OwnFrom B (fun (_ : Unit) W => PR0 p w bO bF fa fn fcap W) := by
  rintro s W W' row ⟨h1, h2, h3⟩ hg hr
  exact ⟨Box.keptN hg (fun r e => (hr r e).2) h1, Box.keptN hg (fun r e => (hr r e).2) h2, (ownFrom_below (β := Unit) (Nat.le_refl _) hB) () W W' row h3 hg hr⟩
theorem PFin.own {B : Nat} (hB : w.heap.size ≤ B) : OwnFrom B (fun (_ : Unit) W => PFin p fl w T bO bF W) := by
  rintro s W W' row ⟨i, bP, h, h2⟩ hg hr
  exact ⟨i, bP, PWnt.own hB (i, bP) W W' row h hg hr, h2⟩
theorem PAsg.own {B : Nat} (hB : w.heap.size ≤ B) (mk : Nat → Option Addr × Nat × Nat → Act) (s : Nat × Nat) (x : Option Addr × Nat × Nat) (a : Act) : OwnFrom B (fun (_ : Unit) W => PAsg p fl w T bO bF mk s x a W) := by
  rintro u W W' row ⟨bG, h2, h3, h4⟩ hg hr
  exact ⟨bG, h2, Box.keptN hg (fun r e => (hr r e).2) h3, PRdy.own hB x s W W' row h4 hg hr⟩
end
end Alg
end
