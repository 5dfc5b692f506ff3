/- Slices of structs: ones that are read, ones that the call grows: of any kind of element. -/
import Derived.Test.YtbnjmeeaaieicaaDoorA9
import Derived.Deep.AppendLies
import Derived.RangeFuncNested
import Derived.OwnWalkIn
open Alg Go Go.RowKit
namespace Alg
theorem Sl.grown {w w' : World} {row : Option Nat} {a : Option Addr} {n cap : Nat} {l : List Nat} (h : Sl w a n cap l) (hg : w.grownBy w' row) (ho : ∀ r, row = some r → Off a n r) : Sl w' a n cap l where
  len := h.len
  le := h.le
  cap := h.cap
  lt := h.lt
  rd := by
    rcases h.rd with h0 | ⟨b, off, ha, hc⟩
    · exact Or.inl h0
    by_cases hn : n = 0
    · exact Or.inl hn
    refine Or.inr ⟨b, off, ha, fun i hi => hg.cell (hc i hi) fun e => ?_⟩
    rcases ho b e.symm with h1 | h1
    · exact hn h1
    · exact h1 b off none ha rfl
/-- a kind of element: sz cells; ok: these cells tell it, and its slices lie in none of the blocks R -/
structure Kind (α : Type) where
  sz : Nat
  pos : 0 < sz
  ok : World → List Nat → List Value → α → Prop
  len : ∀ {w R vs x}, ok w R vs x → vs.length = sz
  cells : ∀ {w R vs x}, ok w R vs x → ∀ u ∈ vs, u.oneCell' = true
  mono : ∀ {w w' R vs x}, ok w R vs x → Below w.heap.size w w' → ok w' R vs x
  grown : ∀ {w w' row R vs x}, ok w R vs x → w.grownBy w' row → (∀ r, row = some r → r ∈ R) → ok w' R vs x
  set : ∀ {w R vs x r}, ok w R vs x → r ∈ R → ∀ i u, ok (w.setCell ⟨r, i, none⟩ u) R vs x
  more : ∀ {w R vs x R'}, ok w R vs x → (∀ r ∈ R', r ∈ R ∨ w.heap.size ≤ r) → ok w R' vs x
/-- polynomials: the prime and the coefficients -/
def kPoly : Kind (Nat × List Nat) where
  sz := 2
  pos := by decide
  ok w R vs x := ∃ a n c, vs = [.int .u32 (x.1 : Int), .slice a n c] ∧ Sl w a n c x.2 ∧ Offs R a n
  len := fun ⟨_, _, _, h, _⟩ => by rw [h]; rfl
  cells := fun ⟨_, _, _, h, _⟩ u hu => by rw [h] at hu; simp at hu; rcases hu with rfl | rfl <;> rfl
  mono := fun ⟨a, n, c, h, s, o⟩ hb => ⟨a, n, c, h, s.mono hb, o⟩
  grown := fun ⟨a, n, c, h, s, o⟩ hg hr => ⟨a, n, c, h, s.grown hg fun r e => o r (hr r e), o⟩
  set := fun ⟨a, n, c, h, s, o⟩ hr i u => ⟨a, n, c, h, s.setCell (o _ hr) u, o⟩
  more := fun ⟨a, n, c, h, s, o⟩ hR => ⟨a, n, c, h, s, fun r hr => (hR r hr).elim (o r) fun h1 => s.off h1⟩
theorem flat_get {s : Nat} : ∀ (vss : List (List Value)) (_ : ∀ vs ∈ vss, vs.length = s) (i j : Nat) (_ : j < s) (hi : i < vss.length), (vss.flatten)[i * s + j]? = vss[i][j]?
  | [], _, i, j, _, hi => absurd hi (by simp)
  | vs :: vss, hl, 0, j, hj, _ => by
    have h := hl vs (List.mem_cons_self ..)
    rw [Nat.zero_mul, Nat.zero_add, List.flatten_cons, List.getElem?_append_left (by omega)]; rfl
  | vs :: vss, hl, i + 1, j, hj, hi => by
    have h := hl vs (List.mem_cons_self ..)
    have e : (i + 1) * s + j = vs.length + (i * s + j) := by rw [Nat.succ_mul, h]; omega
    rw [List.flatten_cons, e, List.getElem?_append_right (by omega), Nat.add_sub_cancel_left]
    have := flat_get vss (fun v hv => hl v (List.mem_cons_of_mem _ hv)) i j hj (by simpa using hi)
    rw [this]; rfl
section
variable {α : Type} {k : Kind α} {w : World} {e : TypeId} {B : Nat} {R : List Nat} {v : Value} {n : Nat} {L : List α}
/-- a slice of the call's own that grows: of these elements; their slices lie neither in its row nor in the blocks R -/
def GrK (k : Kind α) (w : World) (e : TypeId) (B : Nat) (R : List Nat) (v : Value) (n : Nat) (L : List α) : Prop :=
  ∃ vss : List (List Value), vss.length = L.length ∧ L.length = n ∧ w.ownsRow B e k.sz v n vss.flatten ∧ ∀ i (h : i < L.length) (h2 : i < vss.length), k.ok w (v.ownBlock.toList ++ R) vss[i] L[i]
theorem GrK.nil (k : Kind α) (w : World) (e : TypeId) (B : Nat) (R : List Nat) : GrK k w e B R (.slice none 0 0) 0 [] := ⟨[], rfl, rfl, World.ownsRow_nil _ _ _ _, fun i h => absurd h (by simp)⟩
theorem GrK.len (h : GrK k w e B R v n L) : L.length = n := h.choose_spec.2.1
theorem GrK.mono (h : GrK k w e B R v n L) {w' : World} (hb : Below w.heap.size w w') : GrK k w' e B R v n L := by
  obtain ⟨vss, h1, h2, h3, h4⟩ := h
  refine ⟨vss, h1, h2, h3.kept ⟨hb.os, hb.tape, hb.output, hb.size, fun k hk _ => hb.block k hk⟩ (row := none) ?_, fun i hi hi2 => k.mono (h4 i hi hi2) hb⟩
  cases hv : v.ownBlock <;> simp
theorem GrK.row (h : GrK k w e B R v n L) : ∀ r, v.ownBlock = some r → B ≤ r ∧ r < w.heap.size := h.choose_spec.2.2.1.lt
theorem GrK.set (h : GrK k w e B R v n L) {r : Nat} (hr : r ∈ R) (hB : r < B) (i : Nat) (u : Value) : GrK k (w.setCell ⟨r, i, none⟩ u) e B R v n L := by
  obtain ⟨vss, h1, h2, h3, h4⟩ := h
  refine ⟨vss, h1, h2, h3.kept (row := some r) ⟨rfl, rfl, rfl, by simp [World.setCell], fun k _ hk => Below.heap_setCell w ⟨r, i, none⟩ u k (fun e => hk (by rw [e]))⟩ (Or.inr fun e => ?_), fun j hj hj2 => k.set (h4 j hj hj2) (List.mem_append_right _ hr) i u⟩
  have := (h3.lt _ e).1
  omega
/-- one element more -/
theorem GrK.grow (h : GrK k w e B R v n L) : ∃ xs, w.ownsRow B e k.sz v n xs ∧ ∀ (w' w2 : World) (news : List Value) (x : α) (o : Obj) (g c : Nat), Below w.heap.size w w' → k.ok w' (v.ownBlock.toList ++ R) news x →
    w2.ownsRow B e k.sz (.slice (some ⟨g, 0, none⟩) (n + 1) c) (n + 1) (xs ++ news) → (w'.alloc o).grownBy w2 v.ownBlock → (v.ownBlock = some g ∨ g = w'.heap.size + 1) → GrK k w2 e B R (.slice (some ⟨g, 0, none⟩) (n + 1) c) (n + 1) (L ++ [x]) := by
  obtain ⟨vss, h1, h2, h3, h4⟩ := h
  refine ⟨vss.flatten, h3, fun w' w2 news x o g c hb hx hown hgrow hat => ?_⟩
  have hba : Below w'.heap.size w' (w'.alloc o) := (Below.refl _ _).alloc (Nat.le_refl _) o
  have key : ∀ {vs : List Value} {y : α}, k.ok w' (v.ownBlock.toList ++ R) vs y → k.ok w2 ((Value.slice (some ⟨g, 0, none⟩) (n + 1) c).ownBlock.toList ++ R) vs y := fun {vs y} hy => by
    have hy2 : k.ok w' (g :: (v.ownBlock.toList ++ R)) vs y := k.more hy fun r hr => by
      rcases List.mem_cons.1 hr with h5 | h5
      · rcases hat with h6 | h6
        · left; rw [h5, h6]; simp
        · right; omega
      · exact Or.inl h5
    have h5 := k.grown (k.mono hy2 hba) hgrow (fun r hr => by rw [hr]; simp)
    refine k.more h5 fun r hr => ?_
    left
    rcases List.mem_append.1 hr with h6 | h6
    · have : r = g := by simpa [Value.ownBlock] using h6
      rw [this]; exact List.mem_cons_self ..
    · exact List.mem_cons_of_mem _ (List.mem_append_right _ h6)
  refine ⟨vss ++ [news], by simp [h1], by simp [h2], by rw [List.flatten_append]; simpa using hown, fun i hi hi2 => ?_⟩
  by_cases hlt : i < L.length
  · rw [List.getElem_append_left hlt, List.getElem_append_left (by omega)]
    exact key (k.mono (h4 i hlt (by omega)) hb)
  · have hi3 : i = L.length := by simp at hi; omega
    subst hi3
    rw [List.getElem_append_right (Nat.le_refl _), List.getElem_append_right (by omega)]
    simp only [h1, Nat.sub_self, List.getElem_cons_zero]
    exact key hx
/-- a slice of elements that is read -/
structure SlK (k : Kind α) (w : World) (a : Option Addr) (n cap : Nat) (L : List α) : Prop where
  len : L.length = n
  le : n ≤ cap
  cap : cap ≤ 9223372036854775807
  rd : n = 0 ∨ ∃ b off, a = some ⟨b, off, none⟩ ∧ ∀ i (h : i < L.length), ∃ vs, (∀ j, j < k.sz → w.cell? ⟨b, off + i * k.sz + j, none⟩ = vs[j]?) ∧ k.ok w [] vs L[i]
theorem SlK.ofPos {a : Option Addr} {cap : Nat} (h : SlK k w a n cap L) (h0 : 0 < n) : ∃ b off, a = some ⟨b, off, none⟩ := by
  rcases h.rd with h1 | ⟨b, off, ha, _⟩
  · omega
  · exact ⟨b, off, ha⟩
theorem SlK.nthAt {b off cap : Nat} (h : SlK k w (some ⟨b, off, none⟩) n cap L) (i : Nat) (hi : i < L.length) : ∃ vs, (∀ j, j < k.sz → w.cell? ⟨b, off + i * k.sz + j, none⟩ = vs[j]?) ∧ k.ok w [] vs L[i] := by
  rcases h.rd with h1 | ⟨b', off', ha, hc⟩
  · have := h.len; omega
  · obtain ⟨rfl, rfl⟩ : b = b' ∧ off = off' := by simpa using ha
    exact hc i hi
theorem SlK.mono {a : Option Addr} {cap : Nat} (h : SlK k w a n cap L) {w' : World} (hb : Below w.heap.size w w') : SlK k w' a n cap L where
  len := h.len
  le := h.le
  cap := h.cap
  rd := by
    rcases h.rd with h0 | ⟨b, off, ha, hc⟩
    · exact Or.inl h0
    · refine Or.inr ⟨b, off, ha, fun i hi => ?_⟩
      obtain ⟨vs, h1, h2⟩ := hc i hi
      refine ⟨vs, fun j hj => ?_, k.mono h2 hb⟩
      have h3 := h1 j hj
      have h4 : j < vs.length := by rw [k.len h2]; exact hj
      rw [List.getElem?_eq_getElem h4] at h3 ⊢
      exact (hb.cell (p := ⟨b, off + i * k.sz + j, none⟩) (cell_lt h3)).trans h3
theorem GrK.sl (h : GrK k w e B R v n L) : ∃ a cap, v = .slice a n cap ∧ SlK k w a n cap L ∧ (n = 0 ∨ ∃ g, a = some ⟨g, 0, none⟩ ∧ B ≤ g) := by
  obtain ⟨vss, h1, h2, h3, h4⟩ := h
  have hl : ∀ vs ∈ vss, vs.length = k.sz := fun vs hvs => by
    obtain ⟨i, hi, rfl⟩ := List.mem_iff_getElem.1 hvs
    exact k.len (h4 i (by omega) hi)
  have h3' := h3
  rcases h3.2 with ⟨rfl, rfl⟩ | ⟨g, cap, cur, rfl, hb, hg, hnc, hcm, _, _⟩
  · exact ⟨none, 0, rfl, ⟨h2, Nat.le_refl _, by omega, Or.inl rfl⟩, Or.inl rfl⟩
  · refine ⟨_, _, rfl, ⟨h2, hnc, by unfold maxLen at hcm; omega, Or.inr ⟨g, 0, rfl, fun i hi => ⟨vss[i], fun j hj => ?_, k.more (h4 i hi (by omega)) fun r hr => absurd hr (List.not_mem_nil)⟩⟩⟩, Or.inr ⟨g, rfl, hb⟩⟩
    have hlt : i * k.sz + j < n * k.sz := by
      have : (i + 1) * k.sz ≤ n * k.sz := Nat.mul_le_mul_right _ (by omega)
      rw [Nat.succ_mul] at this; omega
    rw [Nat.zero_add, h3'.cellAt _ hlt]
    exact flat_get vss hl i j hj (by omega)
end
theorem Box.grown {W W' : World} {b : Nat} {cs : Array Value} {row : Option Nat} (h : Box W b cs) (hg : W.grownBy W' row) (hne : row ≠ some b) : Box W' b cs where
  lt := Nat.lt_of_lt_of_le h.lt hg.size
  cell := fun i v h1 => hg.cell (h.cell i v h1) (fun e => hne e.symm)
  frozen := fun i => (World.frozen?_of_block (hg.block b h.lt (fun e => hne e.symm))).trans (h.frozen i)
/-- what else lies in memory follows when an element is appended -/
theorem Kind.follow {α : Type} (k : Kind α) {w' w2 : World} {v : Value} {R : List Nat} {o : Obj} {g m c : Nat} {vs : List Value} {y : α} (hy : k.ok w' (v.ownBlock.toList ++ R) vs y) (hgrow : (w'.alloc o).grownBy w2 v.ownBlock)
    (hat : v.ownBlock = some g ∨ g = w'.heap.size + 1) : k.ok w2 ((Value.slice (some ⟨g, 0, none⟩) m c).ownBlock.toList ++ R) vs y := by
  have hba : Below w'.heap.size w' (w'.alloc o) := (Below.refl _ _).alloc (Nat.le_refl _) o
  have hy2 : k.ok w' (g :: (v.ownBlock.toList ++ R)) vs y := k.more hy fun r hr => by
    rcases List.mem_cons.1 hr with h5 | h5
    · rcases hat with h6 | h6
      · left; rw [h5, h6]; simp
      · right; omega
    · exact Or.inl h5
  have h5 := k.grown (k.mono hy2 hba) hgrow (fun r hr => by rw [hr]; simp)
  refine k.more h5 fun r hr => ?_
  left
  rcases List.mem_append.1 hr with h6 | h6
  · have : r = g := by simpa [Value.ownBlock] using h6
    rw [this]; exact List.mem_cons_self ..
  · exact List.mem_cons_of_mem _ (List.mem_append_right _ h6)
theorem SlK.nil {α : Type} (k : Kind α) (w : World) : SlK k w none 0 0 [] := ⟨rfl, Nat.le_refl _, by omega, Or.inl rfl⟩
theorem kPoly_sl {w : World} {R : List Nat} {p : Nat} {a : Option Addr} {n c : Nat} {l : List Nat} (h : kPoly.ok w R [.int .u32 (p : Int), .slice a n c] (p, l)) : Sl w a n c l ∧ Offs R a n := by
  obtain ⟨a', n', c', e, s, o⟩ := h
  simp only [List.cons.injEq, Value.slice.injEq, and_true, true_and] at e
  obtain ⟨rfl, rfl, rfl⟩ := e
  exact ⟨s, o⟩
theorem kPoly_mk {w : World} {R : List Nat} {p : Nat} {a : Option Addr} {n c : Nat} {l : List Nat} (s : Sl w a n c l) (o : Offs R a n) : kPoly.ok w R [.int .u32 (p : Int), .slice a n c] (p, l) := ⟨a, n, c, rfl, s, o⟩
theorem keeps_below {B : Nat} {W W' : World} (h : Below W.heap.size W W') : KeepsFrom B W W' :=
  ⟨h.size, fun k _ _ hk _ => (h.block k (Array.getElem?_eq_some_iff.1 hk).1).trans hk⟩
theorem keeps_set {B : Nat} (W : World) (a : Addr) (u : Value) : KeepsFrom B W (W.setCell a u) := (KeepsOthers.setCell _ _ _).from _
/-- what an append inside a fence hands back lies in the row as it was, or in a new block -/
theorem wpListIn_append_lies {F : Fence} {nF : Nat} {P : Program} {ops : Array Oper} {rest : List Oper} {o : Oper} {a : Act} {Q : Exit → Act → World → Prop} (w : World) (hgd : o.guard = none) (s x : Operand) (t : TypeId)
    (ho : o.op = .call { callee := .builtin .append, args := #[s, x], argTypes := #[t, t] })
    (base : Nat) (e : TypeId) (i : TypeInfo) (z : Value) (size bytes : Nat) (ht : P.underlying t = some (.slice e)) (hi : P.info? e = some i) (hz : i.zero = some z)
    (hsize : i.size = size) (hby : i.bytes = bytes) (hzs : z.cells.size = size) (hsz : 0 < size)
    (v : Value) (n : Nat) (xs : List Value) (hs : a.eval s = v) (hown : w.ownsRow base e size v n xs)
    (ad : Addr) (m c : Nat) (news : List Value) (hx : a.eval x = .slice (some ad) m c) (hl : news.length = m * size) (hnews : ∀ j u, news[j]? = some u → w.cell? (ad.add j) = some u) (h1 : ∀ u ∈ news, u.oneCell' = true)
    (hm : 0 < m) (h63 : n + m ≤ maxLen) (hbytes : (n + m) * bytes ≤ 140737488355328) (hbase : base ≤ w.heap.size) (H : Nat) (hH : w.heap.size = H)
    (h : ∀ g cap w', w'.ownsRow base e size (.slice (some ⟨g, 0, none⟩) (n + m) cap) (n + m) (xs ++ news) → w.grownBy w' v.ownBlock → (v.ownBlock = some g ∨ g = H) → g < w'.heap.size → wpListIn F nF P ops Q rest (a.put o.dst (.slice (some ⟨g, 0, none⟩) (n + m) cap)) w') :
    wpListIn F nF P ops Q (o :: rest) a w := by
  refine wpListIn_plain hgd fun K hK => ?_
  obtain ⟨g, cap, w', hr, h2, h3, h4, h5⟩ := run_append_lies (P := P) w t o.type base e i z size bytes ht hi hz hsize hby hzs hsz v n xs hown ad m c news hl hnews h1 hm h63 hbytes hbase H hH
  unfold Oper.wpIn
  refine ⟨by simp [Oper.about, ho, resolve, Target.leads, Sem.run_pure], ?_⟩
  rw [Oper.semAt_plain F _ _ (by rw [ho]; intro c hc'; cases hc')]
  simp [execOp, ho, resolve, invoke, builtin, hs, hx, hr, Result.andThen]
  exact hK _ _ (h g cap w' h2 h3 h4 h5)
/-- whole numbers: the sign and the limbs -/
def kInt : Kind (Bool × List Nat) where
  sz := 2
  pos := by decide
  ok w R vs x := ∃ a n c, vs = [.bool x.1, .slice a n c] ∧ Sl w a n c x.2 ∧ Offs R a n
  len := fun ⟨_, _, _, h, _⟩ => by rw [h]; rfl
  cells := fun ⟨_, _, _, h, _⟩ u hu => by rw [h] at hu; simp at hu; rcases hu with rfl | rfl <;> rfl
  mono := fun ⟨a, n, c, h, s, o⟩ hb => ⟨a, n, c, h, s.mono hb, o⟩
  grown := fun ⟨a, n, c, h, s, o⟩ hg hr => ⟨a, n, c, h, s.grown hg fun r e => o r (hr r e), o⟩
  set := fun ⟨a, n, c, h, s, o⟩ hr i u => ⟨a, n, c, h, s.setCell (o _ hr) u, o⟩
  more := fun ⟨a, n, c, h, s, o⟩ hR => ⟨a, n, c, h, s, fun r hr => (hR r hr).elim (o r) fun h1 => s.off h1⟩
theorem kInt_sl {w : World} {R : List Nat} {s : Bool} {a : Option Addr} {n c : Nat} {l : List Nat} (h : kInt.ok w R [.bool s, .slice a n c] (s, l)) : Sl w a n c l ∧ Offs R a n := by
  obtain ⟨a', n', c', e, s', o⟩ := h
  simp only [List.cons.injEq, Value.slice.injEq, and_true, true_and] at e
  obtain ⟨rfl, rfl, rfl⟩ := e
  exact ⟨s', o⟩
theorem kInt_mk {w : World} {R : List Nat} {b : Bool} {a : Option Addr} {n c : Nat} {l : List Nat} (s : Sl w a n c l) (o : Offs R a n) : kInt.ok w R [.bool b, .slice a n c] (b, l) := ⟨a, n, c, rfl, s, o⟩
/-- the cells of an element -/
theorem SlK.int {w : World} {b off n cap : Nat} {L : List (Bool × List Nat)} (h : SlK kInt w (some ⟨b, off, none⟩) n cap L) (i : Nat) (hi : i < L.length) :
    ∃ a m c, w.cell? ⟨b, off + i * 2, none⟩ = some (.bool L[i].1) ∧ w.cell? ⟨b, off + i * 2 + 1, none⟩ = some (.slice a m c) ∧ Sl w a m c L[i].2 := by
  obtain ⟨vs, hc, a, m, c, rfl, s, _⟩ := h.nthAt i hi
  exact ⟨a, m, c, hc 0 (by decide), hc 1 (by decide), s⟩
end Alg
