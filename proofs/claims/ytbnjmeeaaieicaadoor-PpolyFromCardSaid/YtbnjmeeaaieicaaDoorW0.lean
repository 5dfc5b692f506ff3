import Derived.WalkKit
import Derived.WalkSpells
import Derived.Handy
import Derived.BigQuiet
import Derived.Deep.QuietTactic
import Derived.Deep.DeepFit
import Derived.StillTailTactics
import Derived.Deep.RegionHeld3
import Derived.Below
import Derived.OwnWalk
import Derived.Test.YtbnjmeeaaieicaaDoorP1
namespace Alg
open Go Go.RowKit
theorem hid {p : Prop} (h : p) : Hid p := h
theorem cell_lt {w : World} {a : Addr} {v : Value} (h : w.cell? a = some v) : a.block < w.heap.size := by
  unfold World.cell? at h
  rcases Nat.lt_or_ge a.block w.heap.size with h1 | h1
  · exact h1
  · rw [Array.getElem?_eq_none h1] at h; exact absurd h (by simp)


/-- v is a slice of 32-bit numbers: these -/
structure Sl (w : World) (a : Option Addr) (n cap : Nat) (l : List Nat) : Prop where
  len : l.length = n
  le : n ≤ cap
  cap : cap ≤ 9223372036854775807
  lt : ∀ i, nth l i < 4294967296
  rd : n = 0 ∨ ∃ b off, a = some ⟨b, off, none⟩ ∧ ∀ i, i < n → w.cell? ⟨b, off + i, none⟩ = some (.int .u32 (nth l i : Nat))

theorem Sl.mono {w w' : World} {a : Option Addr} {n cap : Nat} {l : List Nat} (h : Sl w a n cap l) (hb : Below w.heap.size w w') : Sl w' a n cap l where
  len := h.len
  le := h.le
  cap := h.cap
  lt := h.lt
  rd := by
    rcases h.rd with h0 | ⟨b, off, ha, hc⟩
    · exact Or.inl h0
    · exact Or.inr ⟨b, off, ha, fun i hi => (hb.cell (p := ⟨b, off + i, none⟩) (cell_lt (hc i hi))).trans (hc i hi)⟩

/-- below what was there at first -/
theorem bl {B : Nat} {w0 w1 w2 : World} (h1 : Below B w0 w1) (h2 : Below w1.heap.size w1 w2) (hB : B ≤ w1.heap.size) : Below B w0 w2 := h1.trans (h2.mono hB)

/-- where a slice that is handed back lies: nowhere, in an argument's row, or in a new one -/
def Prov (w : World) (A : List (Option Addr)) (a : Option Addr) (n : Nat) : Prop := n = 0 ∨ a ∈ A ∨ ∃ b o s, a = some ⟨b, o, s⟩ ∧ w.heap.size ≤ b
/-- it lies in another block than r -/
def Off (a : Option Addr) (n r : Nat) : Prop := n = 0 ∨ ∀ b o s, a = some ⟨b, o, s⟩ → b ≠ r
theorem Sl.off {w : World} {a : Option Addr} {n cap : Nat} {l : List Nat} (h : Sl w a n cap l) {r : Nat} (hr : w.heap.size ≤ r) : Off a n r := by
  rcases h.rd with h0 | ⟨b, off, ha, hc⟩
  · exact Or.inl h0
  · by_cases n0 : n = 0
    · exact Or.inl n0
    · right
      intro b' o s e
      rw [ha] at e
      simp only [Option.some.injEq, Addr.mk.injEq] at e
      have := cell_lt (hc 0 (by omega))
      have h2 : b < w.heap.size := this
      omega
theorem Off.fresh {n r b o : Nat} {s : Option Nat} (h : b ≠ r) : Off (some ⟨b, o, s⟩) n r := Or.inr fun b' o' s' e => by
  simp only [Option.some.injEq, Addr.mk.injEq] at e; omega
theorem Prov.off {w : World} {A : List (Option Addr)} {a : Option Addr} {n r : Nat} (h : Prov w A a n) (hr : r < w.heap.size) (hA : ∀ x, x ∈ A → Off x n r) : Off a n r := by
  rcases h with h | h | ⟨b, o, s, ha, hb⟩
  · exact Or.inl h
  · exact hA a h
  · subst ha; exact Off.fresh (by omega)
theorem Prov.off0 {w : World} {a : Option Addr} {n r : Nat} (h : Prov w [] a n) (hr : r < w.heap.size) : Off a n r := h.off hr fun _ hx => absurd hx (List.not_mem_nil)
theorem Prov.off1 {w : World} {x a : Option Addr} {n m r : Nat} (h : Prov w [x] a n) (hr : r < w.heap.size) (hx : Off x m r) (hm : n ≤ m) : Off a n r := by
  refine h.off hr fun y hy => ?_
  rw [List.mem_singleton.1 hy]
  rcases hx with h1 | h1
  · left; omega
  · exact Or.inr h1
theorem Prov.offb {w : World} {a : Option Addr} {n r b o : Nat} {s : Option Nat} (h : Prov w [some ⟨b, o, s⟩] a n) (hr : r < w.heap.size) (hb : b ≠ r) : Off a n r :=
  h.off hr fun y hy => by rw [List.mem_singleton.1 hy]; exact Off.fresh hb
theorem Prov.mono {w w0 : World} {A : List (Option Addr)} {a : Option Addr} {n : Nat} (h : Prov w A a n) (hw : w0.heap.size ≤ w.heap.size) : Prov w0 A a n := by
  rcases h with h | h | ⟨b, o, s, ha, hb⟩
  · exact Or.inl h
  · exact Or.inr (Or.inl h)
  · exact Or.inr (Or.inr ⟨b, o, s, ha, by omega⟩)
/-- an argument that was a new row itself -/
theorem Prov.new {w w0 : World} {b o : Nat} {s : Option Nat} {a : Option Addr} {n : Nat} (h : Prov w [some ⟨b, o, s⟩] a n) (hw : w0.heap.size ≤ w.heap.size) (hb : w0.heap.size ≤ b) : Prov w0 [] a n := by
  rcases h with h | h | ⟨b, o, s, ha, hb⟩
  · exact Or.inl h
  · exact Or.inr (Or.inr ⟨b, o, s, List.mem_singleton.1 h, hb⟩)
  · exact Or.inr (Or.inr ⟨b, o, s, ha, by omega⟩)
theorem Prov.self {w : World} {a : Option Addr} {n : Nat} : Prov w [a] a n := Or.inr (Or.inl (List.mem_singleton.2 rfl))
theorem Prov.empty {w : World} {A : List (Option Addr)} {a : Option Addr} : Prov w A a 0 := Or.inl rfl
theorem Sl.drew {w : World} {a : Option Addr} {n cap : Nat} {l : List Nat} (h : Sl w a n cap l) : Sl w.drew a n cap l := h.mono ⟨rfl, rfl, rfl, Nat.le_refl _, fun _ _ => rfl⟩
theorem Sl.setCell {w : World} {a : Option Addr} {n cap : Nat} {l : List Nat} (h : Sl w a n cap l) {r i : Nat} (ho : Off a n r) (u : Value) : Sl (w.setCell ⟨r, i, none⟩ u) a n cap l where
  len := h.len
  le := h.le
  cap := h.cap
  lt := h.lt
  rd := by
    rcases h.rd with h0 | ⟨b, off, ha, hc⟩
    · exact Or.inl h0
    · rcases ho with h1 | h1
      · exact Or.inl h1
      · have hb := h1 b off none ha
        exact Or.inr ⟨b, off, ha, fun j hj => (World.cell?_of_block (w := w) (Below.heap_setCell w ⟨r, i, none⟩ u _ hb)).trans (hc j hj)⟩
/-- the call hands back a polynomial -/
def RetP (p : Nat) (l : List Nat) (A : List (Option Addr)) (w : World) (e : Ending) (w' : World) : Prop :=
  ∃ a n cap, e = .returned (.agg #[.int .u32 (p : Nat), .slice a n cap]) ∧ Sl w' a n cap l ∧ Below w.heap.size w w' ∧ Prov w A a n

theorem trim_nth (l : List Nat) (n k : Nat) (hn : l.length = n) (hk : k ≤ n) (h0 : ∀ i, k ≤ i → i < n → nth l i = 0) (h1 : k = 0 ∨ nth l (k - 1) ≠ 0) : l.take k = trim l :=
  trim_take l k (by omega) (fun i a b => h0 i a (by omega)) h1
theorem nth_take (l : List Nat) (k i : Nat) : nth (l.take k) i = if i < k then nth l i else 0 := getD_take l k i
/-- the first so many -/
theorem Sl.take {w : World} {a : Option Addr} {n cap : Nat} {l : List Nat} (h : Sl w a n cap l) {k : Nat} (hk : k ≤ n) : Sl w a k cap (l.take k) where
  len := by rw [List.length_take, h.len]; omega
  le := Nat.le_trans hk h.le
  cap := h.cap
  lt := fun i => by rw [nth_take]; split; exact h.lt i; decide
  rd := by
    rcases h.rd with h0 | ⟨b, off, ha, hc⟩
    · left; omega
    · exact Or.inr ⟨b, off, ha, fun i hi => by rw [nth_take, if_pos hi]; exact hc i (by omega)⟩
theorem Sl.narrow {w : World} {a : Option Addr} {n cap : Nat} {l : List Nat} (h : Sl w a n cap l) {c : Nat} (h1 : n ≤ c) (h2 : c ≤ cap) : Sl w a n c l :=
  ⟨h.len, h1, Nat.le_trans h2 h.cap, h.lt, h.rd⟩

theorem cell_box (w : World) (cs : Array Value) (T : TypeId) (i : Nat) : (w.alloc (.cells cs T)).cell? ⟨w.heap.size, i, none⟩ = cs[i]? := by
  show (match (w.heap.push (.cells cs T))[w.heap.size]? with | some (.cells c _ _) => if (none : Option Nat).isSome then none else c[i]? | _ => none) = _
  rw [Array.getElem?_push_size]; rfl
theorem cell_past (w : World) (o : Obj) {b i : Nat} (h : b < w.heap.size) : (w.alloc o).cell? ⟨b, i, none⟩ = w.cell? ⟨b, i, none⟩ :=
  World.cell?_of_block (w := w) (Below.heap_alloc w o b h)
theorem below_grown {W w1 : World} (hg : W.grownBy w1 none) : Below W.heap.size W w1 :=
  ⟨hg.os, hg.tape, hg.output, hg.size, fun k hk => hg.block k hk (by simp)⟩
/-- behind the world w the call's own variables lie, one block each, with these cells; nothing that was there has turned -/
structure Boxes (w W : World) (L : List (Array Value)) : Prop where
  below : Below w.heap.size w W
  size : w.heap.size + L.length ≤ W.heap.size
  cell' : ∀ (j i : Nat) (cs : Array Value) (v : Value), L[j]? = some cs → cs[i]? = some v → W.cell? ⟨w.heap.size + j, i, none⟩ = some v
  frozen' : ∀ (j i : Nat), j < L.length → W.frozen? ⟨w.heap.size + j, i, none⟩ = false
theorem Boxes.nil (w : World) : Boxes w w [] := ⟨Below.refl _ _, Nat.le_refl _, fun j i cs v h => by simp at h, fun j i h => by simp at h⟩
theorem Boxes.mono {w W W' : World} {L : List (Array Value)} (h : Boxes w W L) (hb : Below W.heap.size W W') : Boxes w W' L where
  below := h.below.trans (hb.mono h.below.size)
  size := Nat.le_trans h.size hb.size
  cell' := fun j i cs v h1 h2 => by
    have hc := h.cell' j i cs v h1 h2
    exact (hb.cell (p := ⟨w.heap.size + j, i, none⟩) (cell_lt hc)).trans hc
  frozen' := fun j i h1 => (hb.frozen (p := ⟨w.heap.size + j, i, none⟩) (by have := h.size; show w.heap.size + j < _; omega)).trans (h.frozen' j i h1)
theorem Boxes.alloc_any {w W : World} {L : List (Array Value)} (h : Boxes w W L) (o : Obj) : Boxes w (W.alloc o) L := h.mono ((Below.refl _ _).alloc (Nat.le_refl _) o)
theorem frozen_box {w : World} (cs : Array Value) (T : TypeId) (b i : Nat) (h : b = w.heap.size) : (w.alloc (.cells cs T)).frozen? ⟨b, i, none⟩ = false := by
  subst h
  show (match (w.heap.push (.cells cs T))[w.heap.size]? with | some (.cells _ _ (lo, hi)) => decide (lo ≤ i) && decide (i < hi) | _ => false) = _
  rw [Array.getElem?_push_size]; simp
theorem Boxes.alloc {w W : World} {L : List (Array Value)} (h : Boxes w W L) (hs : W.heap.size = w.heap.size + L.length) (cs : Array Value) (T : TypeId) : Boxes w (W.alloc (.cells cs T)) (L ++ [cs]) where
  below := (h.alloc_any _).below
  size := by simp [World.size_alloc, hs]; omega
  cell' := fun j i ds v h1 h2 => by
    by_cases e : j < L.length
    · rw [List.getElem?_append_left e] at h1
      exact (h.alloc_any _).cell' j i ds v h1 h2
    · rw [List.getElem?_append_right (by omega)] at h1
      have e2 : j - L.length = 0 := by
        rcases Nat.eq_zero_or_pos (j - L.length) with h3 | h3
        · exact h3
        · rw [List.getElem?_eq_none (by simp; omega)] at h1; exact absurd h1 (by simp)
      rw [e2] at h1
      have e3 : cs = ds := by simpa using h1
      subst e3
      rw [show w.heap.size + j = W.heap.size by omega, cell_box]; exact h2
  frozen' := fun j i h1 => by
    by_cases e : j < L.length
    · exact (h.alloc_any _).frozen' j i e
    · exact frozen_box cs T _ i (by simp at h1; omega)
/-- the first three: a call's two arguments and its result, and so on -/
theorem boxes1 (w : World) (c1 : Array Value) (t1 : TypeId) : Boxes w (w.alloc (.cells c1 t1)) [c1] := (Boxes.nil w).alloc rfl c1 t1
theorem boxes2 (w : World) (c1 c2 : Array Value) (t1 t2 : TypeId) : Boxes w ((w.alloc (.cells c1 t1)).alloc (.cells c2 t2)) [c1, c2] := (boxes1 w c1 t1).alloc (by simp) c2 t2
theorem boxes3 (w : World) (c1 c2 c3 : Array Value) (t1 t2 t3 : TypeId) : Boxes w (((w.alloc (.cells c1 t1)).alloc (.cells c2 t2)).alloc (.cells c3 t3)) [c1, c2, c3] := (boxes2 w c1 c2 t1 t2).alloc (by simp) c3 t3
theorem boxes4 (w : World) (c1 c2 c3 c4 : Array Value) (t1 t2 t3 t4 : TypeId) : Boxes w ((((w.alloc (.cells c1 t1)).alloc (.cells c2 t2)).alloc (.cells c3 t3)).alloc (.cells c4 t4)) [c1, c2, c3, c4] := (boxes3 w c1 c2 c3 t1 t2 t3).alloc (by simp) c4 t4
theorem Boxes.setCell {w W : World} {L : List (Array Value)} (h : Boxes w W L) {g i : Nat} (hg : w.heap.size + L.length ≤ g) (u : Value) : Boxes w (W.setCell ⟨g, i, none⟩ u) L where
  below := h.below.setCell (p := ⟨g, i, none⟩) (by show w.heap.size ≤ g; omega) u
  size := by simpa [World.setCell] using h.size
  cell' := fun j k cs v h1 h2 => by
    have hj : j < L.length := by
      rcases Nat.lt_or_ge j L.length with h3 | h3
      · exact h3
      · rw [List.getElem?_eq_none h3] at h1; exact absurd h1 (by simp)
    exact (World.cell?_of_block (w := W) (Below.heap_setCell W ⟨g, i, none⟩ u _ (by show w.heap.size + j ≠ g; omega))).trans (h.cell' j k cs v h1 h2)
  frozen' := fun j k h1 => (World.frozen?_of_block (w := W) (Below.heap_setCell W ⟨g, i, none⟩ u _ (by show w.heap.size + j ≠ g; omega))).trans (h.frozen' j k h1)
/-- a store into one of the call's own variables: the rest stands -/
theorem Boxes.store {w W : World} {L : List (Array Value)} (h : Boxes w W L) (j i : Nat) (hj : j < L.length) (u : Value) : Boxes w (W.setCell ⟨w.heap.size + j, i, none⟩ u) (L.take j) where
  below := h.below.setCell (p := ⟨w.heap.size + j, i, none⟩) (by show w.heap.size ≤ w.heap.size + j; omega) u
  size := by
    have := h.size
    simp only [World.setCell, Array.size_modify, List.length_take]; omega
  cell' := fun k m cs v h1 h2 => by
    rw [List.getElem?_take] at h1
    split at h1
    · exact (World.cell?_of_block (w := W) (Below.heap_setCell W ⟨w.heap.size + j, i, none⟩ u _ (by show w.heap.size + k ≠ w.heap.size + j; omega))).trans (h.cell' k m cs v h1 h2)
    · exact absurd h1 (by simp)
  frozen' := fun k m h1 => by
    rw [List.length_take] at h1
    exact (World.frozen?_of_block (w := W) (Below.heap_setCell W ⟨w.heap.size + j, i, none⟩ u _ (by show w.heap.size + k ≠ w.heap.size + j; omega))).trans (h.frozen' k m (by omega))
theorem Boxes.less {w W : World} {L : List (Array Value)} (h : Boxes w W L) (k : Nat) : Boxes w W (L.take k) where
  below := h.below
  size := by have := h.size; rw [List.length_take]; omega
  cell' := fun j i cs v h1 h2 => by
    rw [List.getElem?_take] at h1
    split at h1
    · exact h.cell' j i cs v h1 h2
    · exact absurd h1 (by simp)
  frozen' := fun j i h1 => h.frozen' j i (by rw [List.length_take] at h1; omega)
theorem Boxes.drew {w W : World} {L : List (Array Value)} (h : Boxes w W L) : Boxes w W.drew L := h.mono ⟨rfl, rfl, rfl, Nat.le_refl _, fun _ _ => rfl⟩
theorem Boxes.drewN {w W : World} {L : List (Array Value)} (h : Boxes w W L) (n : Nat) : Boxes w (W.drewN n) L := h.mono ⟨rfl, rfl, rfl, Nat.le_refl _, fun _ _ => rfl⟩
theorem below_drewN (w : World) (n : Nat) : Below w.heap.size w (w.drewN n) := ⟨rfl, rfl, rfl, Nat.le_refl _, fun _ _ => rfl⟩
/-! ### a row of the call's own -/
def vals (l : List Nat) : List Value := l.map fun c => Value.int .u32 (c : Nat)
theorem vals_get (l : List Nat) (i : Nat) (h : i < l.length) : (vals l)[i]? = some (.int .u32 (nth l i : Nat)) := by
  simp [vals, nth, h, List.getD_eq_getElem?_getD]
theorem vals_set (l : List Nat) (i c : Nat) : vals (l.set i c) = (vals l).set i (.int .u32 (c : Nat)) := by
  simp [vals, List.map_set]
/-- block g, from B on, is the call's own row of n cells and more, which hold the numbers l -/
structure Arr (w : World) (e : TypeId) (B g n cap : Nat) (l : List Nat) : Prop where
  own : w.ownsRow B e 1 (.slice (some ⟨g, 0, none⟩) n cap) n (vals l)
  lt : ∀ i, nth l i < 4294967296
theorem Arr.len {w : World} {e : TypeId} {B g n cap : Nat} {l : List Nat} (h : Arr w e B g n cap l) : l.length = n := by
  have := h.own.1; simpa [vals] using this
theorem Arr.cell {w : World} {e : TypeId} {B g n cap : Nat} {l : List Nat} (h : Arr w e B g n cap l) {i : Nat} (hi : i < n) : w.cell? ⟨g, i, none⟩ = some (.int .u32 (nth l i : Nat)) := by
  rw [h.own.cellAt i (by omega), vals_get l i (by rw [h.len]; exact hi)]
theorem Arr.frozen {w : World} {e : TypeId} {B g n cap : Nat} {l : List Nat} (h : Arr w e B g n cap l) (i : Nat) : w.frozen? ⟨g, i, none⟩ = false := h.own.frozenAt i
theorem Arr.split {w : World} {e : TypeId} {B g n cap : Nat} {l : List Nat} (h : Arr w e B g n cap l) : B ≤ g ∧ n ≤ cap ∧ cap ≤ maxLen ∧ g < w.heap.size := by
  rcases h.own.2 with ⟨h', _⟩ | ⟨g', cap', cur, h', hb, hg, hnc, hcm, _, _⟩
  · simp at h'
  · simp only [Value.slice.injEq, Option.some.injEq, Addr.mk.injEq, and_true, true_and] at h'
    obtain ⟨rfl, rfl⟩ := h'
    refine ⟨hb, hnc, hcm, ?_⟩
    rcases Nat.lt_or_ge g w.heap.size with h1 | h1
    · exact h1
    · rw [Array.getElem?_eq_none h1] at hg; exact absurd hg (by simp)
theorem Arr.set {w : World} {e : TypeId} {B g n cap : Nat} {l : List Nat} (h : Arr w e B g n cap l) (i c : Nat) (hc : c < 4294967296) :
    Arr (w.setCell ⟨g, i, none⟩ (.int .u32 (c : Nat))) e B g n cap (l.set i c) :=
  ⟨by rw [vals_set]; exact (h.own.stored i _).1, fun j => by
    unfold nth; rw [getD_set]; split
    · exact hc
    · exact h.lt j⟩
theorem Arr.mono {w w' : World} {e : TypeId} {B g n cap : Nat} {l : List Nat} (h : Arr w e B g n cap l) (hb : Below w.heap.size w w') : Arr w' e B g n cap l :=
  ⟨h.own.kept ⟨hb.os, hb.tape, hb.output, hb.size, fun k hk _ => hb.block k hk⟩ (row := none) (Or.inr (by simp [Value.ownBlock])), h.lt⟩
theorem Arr.drew {w : World} {e : TypeId} {B g n cap : Nat} {l : List Nat} (h : Arr w e B g n cap l) : Arr w.drew e B g n cap l := h.mono ⟨rfl, rfl, rfl, Nat.le_refl _, fun _ _ => rfl⟩
theorem Arr.sl {w : World} {e : TypeId} {B g n cap : Nat} {l : List Nat} (h : Arr w e B g n cap l) (hcap : cap ≤ 9223372036854775807) : Sl w (some ⟨g, 0, none⟩) n cap l where
  len := h.len
  le := h.split.2.1
  cap := hcap
  lt := h.lt
  rd := Or.inr ⟨g, 0, rfl, fun i hi => by rw [Nat.zero_add]; exact h.cell hi⟩
theorem Sl.of_nil (w : World) (a : Option Addr) (cap : Nat) (h : cap ≤ 9223372036854775807) : Sl w a 0 cap [] :=
  ⟨rfl, Nat.zero_le _, h, fun i => by show ([] : List Nat).getD i 0 < _; simp, Or.inl rfl⟩
theorem nth_nil (i : Nat) : nth [] i = 0 := by show ([] : List Nat).getD i 0 = 0; simp

/-- the first k have been reckoned -/
def upto (F : Nat → Nat) (n k : Nat) : List Nat := (List.range n).map fun i => if i < k then F i else 0
theorem upto_zero (F : Nat → Nat) (n : Nat) : upto F n 0 = List.replicate n 0 := by
  unfold upto
  apply List.ext_getElem
  · simp
  · intro i h1 h2; simp
theorem upto_len (F : Nat → Nat) (n k : Nat) : (upto F n k).length = n := by simp [upto]
theorem upto_set (F : Nat → Nat) (n k : Nat) : (upto F n k).set k (F k) = upto F n (k + 1) := by
  unfold upto
  apply List.ext_getElem
  · simp
  · intro i h1 h2
    simp only [List.getElem_set, List.getElem_map, List.getElem_range]
    by_cases e : k = i
    · subst e; rw [if_pos rfl, if_pos (by omega)]
    · rw [if_neg e]
      by_cases h : i < k
      · rw [if_pos h, if_pos (by omega)]
      · rw [if_neg h, if_neg (by omega)]
theorem upto_all (F : Nat → Nat) (n k : Nat) (h : n ≤ k) : upto F n k = (List.range n).map F := by
  unfold upto
  refine List.map_congr_left fun i hi => ?_
  have := List.mem_range.1 hi
  rw [if_pos (by omega)]
theorem nth_upto (F : Nat → Nat) (n k i : Nat) : nth (upto F n k) i = if i < n ∧ i < k then F i else 0 := by
  unfold nth upto
  rw [List.getD_eq_getElem?_getD]
  by_cases h : i < n
  · simp [h]
  · simp [h]
theorem madeCells_u32 (n : Nat) : (madeCells (Value.cells (.int .u32 0)) (n * 1)).toList = vals (List.replicate n 0) := by
  have : ∀ x : Nat, ([Value.int IntKind.u32 0][x % 1]?.getD default : Value) = .int .u32 0 := fun x => by rw [Nat.mod_one]; rfl
  simp [madeCells, Value.cells, vals, this]
  apply List.ext_getElem
  · simp
  · intro i h1 h2; simp
end Alg
