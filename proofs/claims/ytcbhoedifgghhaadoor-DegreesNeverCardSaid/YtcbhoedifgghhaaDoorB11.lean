/- Slices of Bezout triples; the paper's test as one truth value. Slices of structs: ones that are read, ones that the call grows: of any kind of element. -/
import Derived.Test.YtcbhoedifgghhaaDoorL4
import Derived.Test.YtcbhoedifgghhaaDoorW31
section
open Alg Go Go.RowKit
namespace Alg
/-- at o in block b lies a triple -/
def AtB (w : World) (b o : Nat) (x : PB) : Prop :=
  ∃ a1 n1 c1 a2 n2 c2 a3 n3 c3, (w.cell? ⟨b, o, none⟩ = some (.int .u32 (x.pg : Int)) ∧ w.cell? ⟨b, o + 1, none⟩ = some (.slice a1 n1 c1) ∧ w.cell? ⟨b, o + 2, none⟩ = some (.int .u32 (x.pu : Int)) ∧ w.cell? ⟨b, o + 3, none⟩ = some (.slice a2 n2 c2) ∧
    w.cell? ⟨b, o + 4, none⟩ = some (.int .u32 (x.pv : Int)) ∧ w.cell? ⟨b, o + 5, none⟩ = some (.slice a3 n3 c3)) ∧ Sl w a1 n1 c1 x.G ∧ Sl w a2 n2 c2 x.U ∧ Sl w a3 n3 c3 x.V
/-- a slice of triples: these -/
structure SlB (w : World) (a : Option Addr) (n cap : Nat) (L : List PB) : Prop where
  len : L.length = n
  le : n ≤ cap
  cap : cap ≤ 9223372036854775807
  rd : n = 0 ∨ ∃ b off, a = some ⟨b, off, none⟩ ∧ ∀ i (h : i < L.length), AtB w b (off + i * 6) L[i]
theorem AtB.mono {w w' : World} {b o : Nat} {x : PB} (h : AtB w b o x) (hb : Below w.heap.size w w') : AtB w' b o x := by
  obtain ⟨a1, n1, c1, a2, n2, c2, a3, n3, c3, ⟨h0, h1, h2, h3, h4, h5⟩, s1, s2, s3⟩ := h
  have k : ∀ {i : Nat} {v : Value}, w.cell? ⟨b, i, none⟩ = some v → w'.cell? ⟨b, i, none⟩ = some v := fun {i v} hc => (hb.cell (p := ⟨b, i, none⟩) (cell_lt hc)).trans hc
  exact ⟨a1, n1, c1, a2, n2, c2, a3, n3, c3, ⟨k h0, k h1, k h2, k h3, k h4, k h5⟩, s1.mono hb, s2.mono hb, s3.mono hb⟩
theorem SlB.mono {w w' : World} {a : Option Addr} {n cap : Nat} {L : List PB} (h : SlB w a n cap L) (hb : Below w.heap.size w w') : SlB w' a n cap L where
  len := h.len
  le := h.le
  cap := h.cap
  rd := by
    rcases h.rd with h0 | ⟨b, off, ha, hc⟩
    · exact Or.inl h0
    · exact Or.inr ⟨b, off, ha, fun i hi => (hc i hi).mono hb⟩
theorem SlB.ofPos {w : World} {a : Option Addr} {n cap : Nat} {L : List PB} (h : SlB w a n cap L) (h0 : 0 < n) : ∃ b off, a = some ⟨b, off, none⟩ := by
  rcases h.rd with h1 | ⟨b, off, ha, _⟩
  · omega
  · exact ⟨b, off, ha⟩
theorem SlB.nthAt {w : World} {b off : Nat} {n cap : Nat} {L : List PB} (h : SlB w (some ⟨b, off, none⟩) n cap L) (i : Nat) (hi : i < L.length) : AtB w b (off + i * 6) L[i] := by
  rcases h.rd with h1 | ⟨b', off', ha, hc⟩
  · have := h.len; omega
  · obtain ⟨rfl, rfl⟩ : b = b' ∧ off = off' := by simpa using ha
    exact hc i hi
/-- no great rows -/
def FewB (L : List PB) : Prop := ∀ x ∈ L, x.G.length ≤ 1000000 ∧ x.U.length ≤ 1000000 ∧ x.V.length ≤ 1000000
open Classical in
/-- does the paper hold? -/
noncomputable def holdsIB (p : Nat) (f : List Nat) (W : List PB) : Bool := decide (HoldsI p f W)
theorem holdsIB_yes {p : Nat} {f : List Nat} {W : List PB} (h : HoldsI p f W) : holdsIB p f W = true := by
  classical exact decide_eq_true h
theorem holdsIB_no {p : Nat} {f : List Nat} {W : List PB} (h : ¬ HoldsI p f W) : holdsIB p f W = false := by
  classical exact decide_eq_false h
theorem holdsIB_iff {p : Nat} {f : List Nat} {W : List PB} : holdsIB p f W = true ↔ HoldsI p f W := by
  classical exact decide_eq_true_iff
/-- the first looks hold -/
def LooksTo (p : Nat) (f : List Nat) (W : List PB) (j : Nat) : Prop := ∀ i (h : i < W.length), i < j → lookP p f (nth (prl (f.length - 1)) i) W[i]
theorem LooksTo.zero (p : Nat) (f : List Nat) (W : List PB) : LooksTo p f W 0 := fun _ _ h => absurd h (by omega)
theorem LooksTo.succ {p : Nat} {f : List Nat} {W : List PB} {j : Nat} (h : LooksTo p f W j) (hj : j < W.length) (hl : lookP p f (nth (prl (f.length - 1)) j) W[j]) : LooksTo p f W (j + 1) := fun i hi hij => by
  by_cases e : i = j
  · subst e; exact hl
  · exact h i hi (by omega)
theorem LooksTo.all {p : Nat} {f : List Nat} {W : List PB} (hr : rightB p f = true) (hm : monB f = true) (h2 : 2 ≤ f.length) (hl : W.length = (prl (f.length - 1)).length) (hw : apL p f (f.length - 1) = []) (h : LooksTo p f W W.length) : HoldsI p f W :=
  ⟨hr, (monB_true.1 hm).2, h2, hl, hw, fun i hi => h i hi hi⟩
theorem HoldsI.monB {p : Nat} {f : List Nat} {W : List PB} (h : HoldsI p f W) : monB f = true := monB_true.2 ⟨by have := h.two; omega, h.monic⟩
theorem nth_steps {N j : Nat} (h : j < (prl N).length) : nth (stepsL N) j = N / nth (prl N) j := by
  unfold stepsL nth
  simp only [List.getD_eq_getElem?_getD, List.getElem?_map, List.getElem?_eq_getElem h]; rfl
theorem steps_len (N : Nat) : (stepsL N).length = (prl N).length := by rw [stepsL, List.length_map]
end Alg
end
section
open Alg Go Go.RowKit
namespace Alg
theorem Sl.grown {w w' : World} {row : Option Nat} {a : Option Addr} {n cap : Nat} {l : List Nat} (h : Sl w a n cap l) (hg : w.grownBy w' row) (ho : ∀ r, row = some r → Off a n r) : Sl w' a n cap l where
  len := h.len
  le := h.le
  cap := h.cap
  lt := h.lt
  rd := by
    rcases h.rd with h0 | ⟨b, off, ha, hc⟩
    · exact Or.inl h0
    by_cases hn : n = 0
    · exact Or.inl hn
    refine Or.inr ⟨b, off, ha, fun i hi => hg.cell (hc i hi) fun e => ?_⟩
    rcases ho b e.symm with h1 | h1
    · exact hn h1
    · exact h1 b off none ha rfl
/-- a kind of element: sz cells; ok: these cells tell it, and its slices lie in none of the blocks R -/
structure Kind (α : Type) where
  sz : Nat
  pos : 0 < sz
  ok : World → List Nat → List Value → α → Prop
  len : ∀ {w R vs x}, ok w R vs x → vs.length = sz
  cells : ∀ {w R vs x}, ok w R vs x → ∀ u ∈ vs, u.oneCell' = true
  mono : ∀ {w w' R vs x}, ok w R vs x → Below w.heap.size w w' → ok w' R vs x
  grown : ∀ {w w' row R vs x}, ok w R vs x → w.grownBy w' row → (∀ r, row = some r → r ∈ R) → ok w' R vs x
  set : ∀ {w R vs x r}, ok w R vs x → r ∈ R → ∀ i u, ok (w.setCell ⟨r, i, none⟩ u) R vs x
  more : ∀ {w R vs x R'}, ok w R vs x → (∀ r ∈ R', r ∈ R ∨ w.heap.size ≤ r) → ok w R' vs x
/-- polynomials: the prime and the coefficients -/
def kPoly : Kind (Nat × List Nat) where
  sz := 2
  pos := by decide
  ok w R vs x := ∃ a n c, vs = [.int .u32 (x.1 : Int), .slice a n c] ∧ Sl w a n c x.2 ∧ Offs R a n
  len := fun ⟨_, _, _, h, _⟩ => by rw [h]; rfl
  cells := fun ⟨_, _, _, h, _⟩ u hu => by rw [h] at hu; simp at hu; rcases hu with rfl | rfl <;> rfl
  mono := fun ⟨a, n, c, h, s, o⟩ hb => ⟨a, n, c, h, s.mono hb, o⟩
  grown := fun ⟨a, n, c, h, s, o⟩ hg hr => ⟨a, n, c, h, s.grown hg fun r e => o r (hr r e), o⟩
  set := fun ⟨a, n, c, h, s, o⟩ hr i u => ⟨a, n, c, h, s.setCell (o _ hr) u, o⟩
  more := fun ⟨a, n, c, h, s, o⟩ hR => ⟨a, n, c, h, s, fun r hr => (hR r hr).elim (o r) fun h1 => s.off h1⟩
/-- Bezout triples -/
def kPB : Kind PB where
  sz := 6
  pos := by decide
  ok w R vs x := ∃ a1 n1 c1 a2 n2 c2 a3 n3 c3, vs = [.int .u32 (x.pg : Int), .slice a1 n1 c1, .int .u32 (x.pu : Int), .slice a2 n2 c2, .int .u32 (x.pv : Int), .slice a3 n3 c3] ∧ (Sl w a1 n1 c1 x.G ∧ Sl w a2 n2 c2 x.U ∧ Sl w a3 n3 c3 x.V) ∧ (Offs R a1 n1 ∧ Offs R a2 n2 ∧ Offs R a3 n3)
  len := fun ⟨_, _, _, _, _, _, _, _, _, h, _⟩ => by rw [h]; rfl
  cells := fun ⟨_, _, _, _, _, _, _, _, _, h, _⟩ u hu => by rw [h] at hu; simp at hu; rcases hu with rfl | rfl | rfl | rfl | rfl | rfl <;> rfl
  mono := fun ⟨a1, n1, c1, a2, n2, c2, a3, n3, c3, h, ⟨s1, s2, s3⟩, o⟩ hb => ⟨a1, n1, c1, a2, n2, c2, a3, n3, c3, h, ⟨s1.mono hb, s2.mono hb, s3.mono hb⟩, o⟩
  grown := fun ⟨a1, n1, c1, a2, n2, c2, a3, n3, c3, h, ⟨s1, s2, s3⟩, o1, o2, o3⟩ hg hr => ⟨a1, n1, c1, a2, n2, c2, a3, n3, c3, h, ⟨s1.grown hg fun r e => o1 r (hr r e), s2.grown hg fun r e => o2 r (hr r e), s3.grown hg fun r e => o3 r (hr r e)⟩, o1, o2, o3⟩
  set := fun ⟨a1, n1, c1, a2, n2, c2, a3, n3, c3, h, ⟨s1, s2, s3⟩, o1, o2, o3⟩ hr i u => ⟨a1, n1, c1, a2, n2, c2, a3, n3, c3, h, ⟨s1.setCell (o1 _ hr) u, s2.setCell (o2 _ hr) u, s3.setCell (o3 _ hr) u⟩, o1, o2, o3⟩
  more := fun ⟨a1, n1, c1, a2, n2, c2, a3, n3, c3, h, ⟨s1, s2, s3⟩, o1, o2, o3⟩ hR => ⟨a1, n1, c1, a2, n2, c2, a3, n3, c3, h, ⟨s1, s2, s3⟩, fun r hr => (hR r hr).elim (o1 r) fun h1 => s1.off h1, fun r hr => (hR r hr).elim (o2 r) fun h1 => s2.off h1, fun r hr => (hR r hr).elim (o3 r) fun h1 => s3.off h1⟩
theorem flat_get {s : Nat} : ∀ (vss : List (List Value)) (_ : ∀ vs ∈ vss, vs.length = s) (i j : Nat) (_ : j < s) (hi : i < vss.length), (vss.flatten)[i * s + j]? = vss[i][j]?
  | [], _, i, j, _, hi => absurd hi (by simp)
  | vs :: vss, hl, 0, j, hj, _ => by
    have h := hl vs (List.mem_cons_self ..)
    rw [Nat.zero_mul, Nat.zero_add, List.flatten_cons, List.getElem?_append_left (by omega)]; rfl
  | vs :: vss, hl, i + 1, j, hj, hi => by
    have h := hl vs (List.mem_cons_self ..)
    have e : (i + 1) * s + j = vs.length + (i * s + j) := by rw [Nat.succ_mul, h]; omega
    rw [List.flatten_cons, e, List.getElem?_append_right (by omega), Nat.add_sub_cancel_left]
    have := flat_get vss (fun v hv => hl v (List.mem_cons_of_mem _ hv)) i j hj (by simpa using hi)
    rw [this]; rfl
section
variable {α : Type} {k : Kind α} {w : World} {e : TypeId} {B : Nat} {R : List Nat} {v : Value} {n : Nat} {L : List α}
/-- a slice of the call's own that grows: of these elements; their slices lie neither in its row nor in the blocks R -/
def GrK (k : Kind α) (w : World) (e : TypeId) (B : Nat) (R : List Nat) (v : Value) (n : Nat) (L : List α) : Prop :=
  ∃ vss : List (List Value), vss.length = L.length ∧ L.length = n ∧ w.ownsRow B e k.sz v n vss.flatten ∧ ∀ i (h : i < L.length) (h2 : i < vss.length), k.ok w (v.ownBlock.toList ++ R) vss[i] L[i]
theorem GrK.nil (k : Kind α) (w : World) (e : TypeId) (B : Nat) (R : List Nat) : GrK k w e B R (.slice none 0 0) 0 [] := ⟨[], rfl, rfl, World.ownsRow_nil _ _ _ _, fun i h => absurd h (by simp)⟩
theorem GrK.len (h : GrK k w e B R v n L) : L.length = n := h.choose_spec.2.1
theorem GrK.mono (h : GrK k w e B R v n L) {w' : World} (hb : Below w.heap.size w w') : GrK k w' e B R v n L := by
  obtain ⟨vss, h1, h2, h3, h4⟩ := h
  refine ⟨vss, h1, h2, h3.kept ⟨hb.os, hb.tape, hb.output, hb.size, fun k hk _ => hb.block k hk⟩ (row := none) ?_, fun i hi hi2 => k.mono (h4 i hi hi2) hb⟩
  cases hv : v.ownBlock <;> simp
theorem GrK.row (h : GrK k w e B R v n L) : ∀ r, v.ownBlock = some r → B ≤ r ∧ r < w.heap.size := h.choose_spec.2.2.1.lt
theorem GrK.set (h : GrK k w e B R v n L) {r : Nat} (hr : r ∈ R) (hB : r < B) (i : Nat) (u : Value) : GrK k (w.setCell ⟨r, i, none⟩ u) e B R v n L := by
  obtain ⟨vss, h1, h2, h3, h4⟩ := h
  refine ⟨vss, h1, h2, h3.kept (row := some r) ⟨rfl, rfl, rfl, by simp [World.setCell], fun k _ hk => Below.heap_setCell w ⟨r, i, none⟩ u k (fun e => hk (by rw [e]))⟩ (Or.inr fun e => ?_), fun j hj hj2 => k.set (h4 j hj hj2) (List.mem_append_right _ hr) i u⟩
  have := (h3.lt _ e).1
  omega
/-- one element more -/
theorem GrK.grow (h : GrK k w e B R v n L) : ∃ xs, w.ownsRow B e k.sz v n xs ∧ ∀ (w' w2 : World) (news : List Value) (x : α) (o : Obj) (g c : Nat), Below w.heap.size w w' → k.ok w' (v.ownBlock.toList ++ R) news x →
    w2.ownsRow B e k.sz (.slice (some ⟨g, 0, none⟩) (n + 1) c) (n + 1) (xs ++ news) → (w'.alloc o).grownBy w2 v.ownBlock → (v.ownBlock = some g ∨ g = w'.heap.size + 1) → GrK k w2 e B R (.slice (some ⟨g, 0, none⟩) (n + 1) c) (n + 1) (L ++ [x]) := by
  obtain ⟨vss, h1, h2, h3, h4⟩ := h
  refine ⟨vss.flatten, h3, fun w' w2 news x o g c hb hx hown hgrow hat => ?_⟩
  have hba : Below w'.heap.size w' (w'.alloc o) := (Below.refl _ _).alloc (Nat.le_refl _) o
  have key : ∀ {vs : List Value} {y : α}, k.ok w' (v.ownBlock.toList ++ R) vs y → k.ok w2 ((Value.slice (some ⟨g, 0, none⟩) (n + 1) c).ownBlock.toList ++ R) vs y := fun {vs y} hy => by
    have hy2 : k.ok w' (g :: (v.ownBlock.toList ++ R)) vs y := k.more hy fun r hr => by
      rcases List.mem_cons.1 hr with h5 | h5
      · rcases hat with h6 | h6
        · left; rw [h5, h6]; simp
        · right; omega
      · exact Or.inl h5
    have h5 := k.grown (k.mono hy2 hba) hgrow (fun r hr => by rw [hr]; simp)
    refine k.more h5 fun r hr => ?_
    left
    rcases List.mem_append.1 hr with h6 | h6
    · have : r = g := by simpa [Value.ownBlock] using h6
      rw [this]; exact List.mem_cons_self ..
    · exact List.mem_cons_of_mem _ (List.mem_append_right _ h6)
  refine ⟨vss ++ [news], by simp [h1], by simp [h2], by rw [List.flatten_append]; simpa using hown, fun i hi hi2 => ?_⟩
  by_cases hlt : i < L.length
  · rw [List.getElem_append_left hlt, List.getElem_append_left (by omega)]
    exact key (k.mono (h4 i hlt (by omega)) hb)
  · have hi3 : i = L.length := by simp at hi; omega
    subst hi3
    rw [List.getElem_append_right (Nat.le_refl _), List.getElem_append_right (by omega)]
    simp only [h1, Nat.sub_self, List.getElem_cons_zero]
    exact key hx
/-- a slice of elements that is read -/
structure SlK (k : Kind α) (w : World) (a : Option Addr) (n cap : Nat) (L : List α) : Prop where
  len : L.length = n
  le : n ≤ cap
  cap : cap ≤ 9223372036854775807
  rd : n = 0 ∨ ∃ b off, a = some ⟨b, off, none⟩ ∧ ∀ i (h : i < L.length), ∃ vs, (∀ j, j < k.sz → w.cell? ⟨b, off + i * k.sz + j, none⟩ = vs[j]?) ∧ k.ok w [] vs L[i]
theorem SlK.ofPos {a : Option Addr} {cap : Nat} (h : SlK k w a n cap L) (h0 : 0 < n) : ∃ b off, a = some ⟨b, off, none⟩ := by
  rcases h.rd with h1 | ⟨b, off, ha, _⟩
  · omega
  · exact ⟨b, off, ha⟩
theorem SlK.nthAt {b off cap : Nat} (h : SlK k w (some ⟨b, off, none⟩) n cap L) (i : Nat) (hi : i < L.length) : ∃ vs, (∀ j, j < k.sz → w.cell? ⟨b, off + i * k.sz + j, none⟩ = vs[j]?) ∧ k.ok w [] vs L[i] := by
  rcases h.rd with h1 | ⟨b', off', ha, hc⟩
  · have := h.len; omega
  · obtain ⟨rfl, rfl⟩ : b = b' ∧ off = off' := by simpa using ha
    exact hc i hi
theorem SlK.mono {a : Option Addr} {cap : Nat} (h : SlK k w a n cap L) {w' : World} (hb : Below w.heap.size w w') : SlK k w' a n cap L where
  len := h.len
  le := h.le
  cap := h.cap
  rd := by
    rcases h.rd with h0 | ⟨b, off, ha, hc⟩
    · exact Or.inl h0
    · refine Or.inr ⟨b, off, ha, fun i hi => ?_⟩
      obtain ⟨vs, h1, h2⟩ := hc i hi
      refine ⟨vs, fun j hj => ?_, k.mono h2 hb⟩
      have h3 := h1 j hj
      have h4 : j < vs.length := by rw [k.len h2]; exact hj
      rw [List.getElem?_eq_getElem h4] at h3 ⊢
      exact (hb.cell (p := ⟨b, off + i * k.sz + j, none⟩) (cell_lt h3)).trans h3
theorem GrK.sl (h : GrK k w e B R v n L) : ∃ a cap, v = .slice a n cap ∧ SlK k w a n cap L ∧ (n = 0 ∨ ∃ g, a = some ⟨g, 0, none⟩ ∧ B ≤ g) := by
  obtain ⟨vss, h1, h2, h3, h4⟩ := h
  have hl : ∀ vs ∈ vss, vs.length = k.sz := fun vs hvs => by
    obtain ⟨i, hi, rfl⟩ := List.mem_iff_getElem.1 hvs
    exact k.len (h4 i (by omega) hi)
  have h3' := h3
  rcases h3.2 with ⟨rfl, rfl⟩ | ⟨g, cap, cur, rfl, hb, hg, hnc, hcm, _, _⟩
  · exact ⟨none, 0, rfl, ⟨h2, Nat.le_refl _, by omega, Or.inl rfl⟩, Or.inl rfl⟩
  · refine ⟨_, _, rfl, ⟨h2, hnc, by unfold maxLen at hcm; omega, Or.inr ⟨g, 0, rfl, fun i hi => ⟨vss[i], fun j hj => ?_, k.more (h4 i hi (by omega)) fun r hr => absurd hr (List.not_mem_nil)⟩⟩⟩, Or.inr ⟨g, rfl, hb⟩⟩
    have hlt : i * k.sz + j < n * k.sz := by
      have : (i + 1) * k.sz ≤ n * k.sz := Nat.mul_le_mul_right _ (by omega)
      rw [Nat.succ_mul] at this; omega
    rw [Nat.zero_add, h3'.cellAt _ hlt]
    exact flat_get vss hl i j hj (by omega)
end
/-- triples, cell by cell -/
theorem SlK.slB {w : World} {a : Option Addr} {n cap : Nat} {L : List PB} (h : SlK kPB w a n cap L) : SlB w a n cap L where
  len := h.len
  le := h.le
  cap := h.cap
  rd := by
    rcases h.rd with h0 | ⟨b, off, ha, hc⟩
    · exact Or.inl h0
    · refine Or.inr ⟨b, off, ha, fun i hi => ?_⟩
      obtain ⟨vs, h1, a1, n1, c1, a2, n2, c2, a3, n3, c3, rfl, ⟨s1, s2, s3⟩, _⟩ := hc i hi
      exact ⟨a1, n1, c1, a2, n2, c2, a3, n3, c3, ⟨h1 0 (by decide), h1 1 (by decide), h1 2 (by decide), h1 3 (by decide), h1 4 (by decide), h1 5 (by decide)⟩, s1, s2, s3⟩
theorem news_six {w : World} {v1 v2 v3 v4 v5 v6 : Value} {t : TypeId} : ∀ (j : Nat) (u : Value), [v1, v2, v3, v4, v5, v6][j]? = some u → (w.alloc (.cells #[v1, v2, v3, v4, v5, v6] t)).cell? ((⟨w.heap.size, 0, none⟩ : Addr).add j) = some u := by
  intro j u hj
  have e : (⟨w.heap.size, 0, none⟩ : Addr).add j = ⟨w.heap.size, j, none⟩ := by
    cases j with
    | zero => rfl
    | succ j => simp [Addr.add]
  rw [e, cell_box]
  rw [← hj]
  simp
end Alg
end
