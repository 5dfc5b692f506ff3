/- Polynomials and Bezout triples that came in, with the room that they may take. Slices of Bezout triples, and papers, that came in, with the room that they may take. -/
import Derived.Test.YtcbhoedifgghhaaDoorR1
import Derived.SizedLaws
import Derived.Deep.Strs
import Derived.Test.YtcbhoedifgghhaaDoorB11
import Derived.Deep.Slices
section
open Alg
namespace Go.Proofs.YtcbhoedifgghhaaDoor
open Go.ChangeShapes Go.WideShapes Go.ChangeAt Go.WideMaps Go.WideElems Go.RowKit
set_option linter.unusedVariables false
set_option maxRecDepth 100000
/-- the room that each row may take -/
def Room {H : Type} (d : DataW H) (t : TypeId) : Prop := ∀ k ∈ d.weights Tryd.prog t, k ≤ reachBytes
theorem bytesU : Tryd.prog.bytesOf 22 = 4 := by kernel_rfl
theorem room_len {H : Type} {e s : List (DataW H)} {cap : Nat} (h : Room (.slice e s) 23) (hl : e.length + s.length = cap) : cap ≤ 35184372087808 := by
  have h1 := h ((e.length + s.length) * Tryd.prog.bytesOf 22) (by simp [DataW.weights, Tryd.underlying23])
  rw [bytesU, hl] at h1
  have : reachBytes = 140737488351232 := rfl
  omega
theorem room_each {H : Type} {l : List (DataW H)} {t : TypeId} {fs : Array Field} (h : Room (.agg l) t) (hs : Tryd.prog.underlying t = some (.struct fs)) {j : Nat} {f : Field} {d : DataW H} (hf : fs[j]? = some f) (hd : l[j]? = some d) : Room d f.type := fun k hk => by
  refine h k ?_
  simp only [DataW.weights, hs]
  exact DataW.weights_mem_each (j := j) (by simp [hf]) hd k hk
/-- a row of uint32 -/
theorem open_row {H : Type} {enc : TypeId × Value → H} {W : World} {fuel : Nat} {cs : List Value} {x : DataW H × List MemPlace} (h : DataW.trod enc Tryd.prog W 0 (fun _ => true) true fuel 23 cs = some x) (hr : Room x.1 23) :
    ∃ a n cap l, cs = [.slice a n cap] ∧ Sl W a n cap l ∧ n ≤ 35184372087808 := by
  rcases open_ints Tryd.underlying23 Tryd.underlying22 (by kernel_rfl) h with ⟨hcs, _⟩ | ⟨x', l, c, zs, hcs, _, hl, hm, hz, hx, hcell, hwz⟩
  · exact ⟨none, 0, 0, [], hcs, Sl.of_nil _ _ _ (by omega), by omega⟩
  · have hz' : zs.length = c := by simpa using hz
    have hc : c ≤ 35184372087808 := by
      rw [hx] at hr
      exact room_len hr (by simp [lits]; omega)
    exact ⟨some x', l, c, _, hcs, sl_of hl hm hz' hcell hwz, by omega⟩
/-- a polynomial -/
theorem open_ppc {H : Type} {enc : TypeId × Value → H} {W : World} {fuel : Nat} {c0 c1 : Value} {x : DataW H × List MemPlace} (h : DataW.trod enc Tryd.prog W 0 (fun _ => true) true fuel 25 [c0, c1] = some x) (hr : Room x.1 25) :
    ∃ (p : Nat) (a : Option Addr) (n cap : Nat) (l : List Nat), c0 = .int .u32 (p : Int) ∧ c1 = .slice a n cap ∧ p < 4294967296 ∧ Sl W a n cap l ∧ n ≤ 35184372087808 := by
  obtain ⟨y0, y1, m, rfl, _, h0, h1⟩ := trod_struct2 Tryd.underlying25 h
  have h0' : DataW.trod enc Tryd.prog W 0 (fun _ => true) true m 22 [c0] = some y0 := h0
  have h1' : DataW.trod enc Tryd.prog W 0 (fun _ => true) true m 23 [c1] = some y1 := h1
  obtain ⟨k, e0, _, hk⟩ := DataW.trod_int Tryd.underlying22 h0'
  have e0' : c0 = .int .u32 k := by simpa using e0
  have hkb := bounds_u32 hk
  obtain ⟨a, n, cap, l, hc, hs, hn⟩ := open_row h1' (room_each hr Tryd.underlying25 (j := 1) rfl rfl)
  refine ⟨k.toNat, a, n, cap, l, by rw [e0', Int.toNat_of_nonneg hkb.1], by simpa using hc, by omega, hs, hn⟩
theorem open_pp2 {H : Type} {enc : TypeId × Value → H} {W : World} {base : Nat} {v : Value} {d : DataW H} {ps : List MemPlace} (hval : Value.okWide Tryd.prog W .any base 25 v) (h : DataW.Trod enc Tryd.prog W 0 (fun _ => true) true 25 v d ps) (hr : Room d 25) :
    ∃ (p : Nat) (a : Option Addr) (n cap : Nat) (l : List Nat), v = .agg #[.int .u32 (p : Int), .slice a n cap] ∧ p < 4294967296 ∧ Sl W a n cap l ∧ n ≤ 35184372087808 := by
  obtain ⟨cs, rfl, hsz⟩ := okWide_struct Tryd.underlying25 hval
  obtain ⟨l⟩ := cs
  have hsz' : l.length = 2 := hsz.trans cellsP
  match l, hsz' with
  | [c0, c1], _ =>
    obtain ⟨fuel, hf⟩ := h
    obtain ⟨p, a, n, cap, l, rfl, rfl, h1, h2, h3⟩ := open_ppc (c0 := c0) (c1 := c1) hf hr
    exact ⟨p, a, n, cap, l, rfl, h1, h2, h3⟩
/-- a triple -/
theorem open_pb {H : Type} {enc : TypeId × Value → H} {W : World} {base : Nat} {v : Value} {d : DataW H} {ps : List MemPlace} (hval : Value.okWide Tryd.prog W .any base 37 v) (h : DataW.Trod enc Tryd.prog W 0 (fun _ => true) true 37 v d ps) (hr : Room d 37) :
    ∃ (p1 : Nat) (a1 : Option Addr) (n1 c1 : Nat) (l1 : List Nat) (p2 : Nat) (a2 : Option Addr) (n2 c2 : Nat) (l2 : List Nat) (p3 : Nat) (a3 : Option Addr) (n3 c3 : Nat) (l3 : List Nat),
      v = .agg #[.int .u32 (p1 : Int), .slice a1 n1 c1, .int .u32 (p2 : Int), .slice a2 n2 c2, .int .u32 (p3 : Int), .slice a3 n3 c3] ∧ Sl W a1 n1 c1 l1 ∧ Sl W a2 n2 c2 l2 ∧ Sl W a3 n3 c3 l3 ∧ n1 ≤ 35184372087808 ∧ n2 ≤ 35184372087808 ∧ n3 ≤ 35184372087808 := by
  obtain ⟨cs, rfl, hsz⟩ := okWide_struct Tryd.underlying37 hval
  obtain ⟨l⟩ := cs
  have hsz' : l.length = 6 := hsz.trans (by kernel_rfl)
  match l, hsz' with
  | [x0, x1, x2, x3, x4, x5], _ =>
    obtain ⟨fuel, hf⟩ := h
    obtain ⟨y0, y1, y2, m, hx, _, h0, h1, h2⟩ := Go.Deep.trod_struct3 Tryd.underlying37 hf
    simp only [Prod.mk.injEq] at hx
    obtain ⟨rfl, _⟩ := hx
    have h0' : DataW.trod enc Tryd.prog W 0 (fun _ => true) true m 25 [x0, x1] = some y0 := h0
    have h1' : DataW.trod enc Tryd.prog W 0 (fun _ => true) true m 25 [x2, x3] = some y1 := h1
    have h2' : DataW.trod enc Tryd.prog W 0 (fun _ => true) true m 25 [x4, x5] = some y2 := h2
    obtain ⟨p1, a1, n1, c1, l1, rfl, rfl, _, s1, b1⟩ := open_ppc h0' (room_each hr Tryd.underlying37 (j := 0) rfl rfl)
    obtain ⟨p2, a2, n2, c2, l2, rfl, rfl, _, s2, b2⟩ := open_ppc h1' (room_each hr Tryd.underlying37 (j := 1) rfl rfl)
    obtain ⟨p3, a3, n3, c3, l3, rfl, rfl, _, s3, b3⟩ := open_ppc h2' (room_each hr Tryd.underlying37 (j := 2) rfl rfl)
    exact ⟨p1, a1, n1, c1, l1, p2, a2, n2, c2, l2, p3, a3, n3, c3, l3, rfl, s1, s2, s3, b1, b2, b3⟩
end Go.Proofs.YtcbhoedifgghhaaDoor
end
section
open Alg
namespace Go.Proofs.YtcbhoedifgghhaaDoor
open Go.ChangeShapes Go.WideShapes Go.ChangeAt Go.WideMaps Go.WideElems Go.RowKit
set_option linter.unusedVariables false
set_option maxRecDepth 100000
theorem weightsAll_mem {H : Type} {P : Program} {e : TypeId} : ∀ (l : List (DataW H)) {d : DataW H} {k : Nat}, d ∈ l → k ∈ d.weights P e → k ∈ DataW.weightsAll P e l
  | [], _, _, h, _ => absurd h (by simp)
  | x :: l, d, k, h, hk => by
    simp only [DataW.weightsAll, List.mem_append]
    rcases List.mem_cons.1 h with rfl | h
    · exact Or.inl hk
    · exact Or.inr (weightsAll_mem l h hk)
def fewPB (x : PB) : Prop := x.G.length ≤ 35184372087808 ∧ x.U.length ≤ 35184372087808 ∧ x.V.length ≤ 35184372087808
theorem cellsB : Tryd.prog.cellsOf 37 = 6 := by kernel_rfl
theorem addr_add (b o i : Nat) : (⟨b, o, none⟩ : Addr).add i = ⟨b, o + i, none⟩ := by
  unfold Addr.add; split
  · rename_i h0; subst h0; rfl
  · rfl
/-- six cells that are a triple -/
theorem open_pbc {H : Type} {enc : TypeId × Value → H} {W : World} {fuel : Nat} {x0 x1 x2 x3 x4 x5 : Value} {x : DataW H × List MemPlace} (h : DataW.trod enc Tryd.prog W 0 (fun _ => true) true fuel 37 [x0, x1, x2, x3, x4, x5] = some x) (hr : Room x.1 37) :
    ∃ (y : PB) (a1 : Option Addr) (n1 c1 : Nat) (a2 : Option Addr) (n2 c2 : Nat) (a3 : Option Addr) (n3 c3 : Nat), (x0 = .int .u32 (y.pg : Int) ∧ x1 = .slice a1 n1 c1 ∧ x2 = .int .u32 (y.pu : Int) ∧ x3 = .slice a2 n2 c2 ∧ x4 = .int .u32 (y.pv : Int) ∧ x5 = .slice a3 n3 c3) ∧ (Sl W a1 n1 c1 y.G ∧ Sl W a2 n2 c2 y.U ∧ Sl W a3 n3 c3 y.V) ∧ fewPB y := by
  obtain ⟨y0, y1, y2, m, rfl, _, h0, h1, h2⟩ := Go.Deep.trod_struct3 Tryd.underlying37 h
  have h0' : DataW.trod enc Tryd.prog W 0 (fun _ => true) true m 25 [x0, x1] = some y0 := h0
  have h1' : DataW.trod enc Tryd.prog W 0 (fun _ => true) true m 25 [x2, x3] = some y1 := h1
  have h2' : DataW.trod enc Tryd.prog W 0 (fun _ => true) true m 25 [x4, x5] = some y2 := h2
  obtain ⟨p1, a1, n1, c1, l1, rfl, rfl, _, s1, b1⟩ := open_ppc h0' (room_each hr Tryd.underlying37 (j := 0) rfl rfl)
  obtain ⟨p2, a2, n2, c2, l2, rfl, rfl, _, s2, b2⟩ := open_ppc h1' (room_each hr Tryd.underlying37 (j := 1) rfl rfl)
  obtain ⟨p3, a3, n3, c3, l3, rfl, rfl, _, s3, b3⟩ := open_ppc h2' (room_each hr Tryd.underlying37 (j := 2) rfl rfl)
  have e1 := s1.len
  have e2 := s2.len
  have e3 := s3.len
  exact ⟨⟨p1, l1, p2, l2, p3, l3⟩, a1, n1, c1, a2, n2, c2, a3, n3, c3, ⟨rfl, rfl, rfl, rfl, rfl, rfl⟩, ⟨s1, s2, s3⟩, by show l1.length ≤ _; omega, by show l2.length ≤ _; omega, by show l3.length ≤ _; omega⟩
/-- a slice of triples -/
theorem open_pbs {H : Type} {enc : TypeId × Value → H} {W : World} {fuel : Nat} {cs : List Value} {x : DataW H × List MemPlace} (h : DataW.trod enc Tryd.prog W 0 (fun _ => true) true fuel 40 cs = some x) (hr : Room x.1 40) :
    ∃ a n cap L, cs = [.slice a n cap] ∧ SlB W a n cap L ∧ ∀ y ∈ L, fewPB y := by
  rcases Go.Deep.open_slice Tryd.underlying40 h with ⟨rfl, _⟩ | ⟨a, len, cap, m, n, D, Pl, rfl, hb, hl, hm, hmm, rfl, hx⟩
  · exact ⟨none, 0, 0, [], rfl, ⟨rfl, Nat.le_refl _, by omega, Or.inl rfl⟩, fun _ h => absurd h (by simp)⟩
  · have hmm' : m = cap := by simpa using hmm
    subst hmm'
    have hm' : m ≤ 9223372036854775807 := by unfold maxLen at hm; omega
    rcases Nat.eq_zero_or_pos len with rfl | h0
    · exact ⟨some a, 0, m, [], rfl, ⟨rfl, hl, hm', Or.inl rfl⟩, fun _ h => absurd h (by simp)⟩
    have hs : a.spot = none := by
      obtain ⟨cs', h1, h2⟩ := hx 0 (by omega)
      rw [cellsB] at h1
      obtain ⟨_, hlen, hcell⟩ := World.cells?_some h1
      have h3 := hcell 0 (by omega)
      rw [List.getElem?_eq_getElem (by omega)] at h3
      have := World.cell?_spot h3
      simpa [Addr.add] using this
    obtain ⟨b, o, sp⟩ := a
    obtain rfl : sp = none := hs
    have hR : ∀ i, i < len → Room (D i) 37 := fun i hi k hk => by
      refine hr k ?_
      simp only [DataW.weights, Tryd.underlying40]
      refine List.mem_cons_of_mem _ (List.mem_append_left _ (weightsAll_mem _ (List.mem_map.2 ⟨i, List.mem_range.2 hi, rfl⟩) hk))
    have each : ∀ i, i < len → ∃ y : PB, AtB W b (o + i * 6) y ∧ fewPB y := fun i hi => by
      obtain ⟨cs', h1, h2⟩ := hx i (by omega)
      rw [cellsB] at h1
      obtain ⟨_, hlen, hcell⟩ := World.cells?_some h1
      match cs', hlen with
      | [x0, x1, x2, x3, x4, x5], _ =>
        obtain ⟨y, a1, n1, c1, a2, n2, c2, a3, n3, c3, ⟨rfl, rfl, rfl, rfl, rfl, rfl⟩, hs, hfew⟩ := open_pbc h2 (hR i hi)
        have key : ∀ j, j < 6 → W.cell? ⟨b, o + i * 6 + j, none⟩ = [Value.int .u32 (y.pg : Int), .slice a1 n1 c1, .int .u32 (y.pu : Int), .slice a2 n2 c2, .int .u32 (y.pv : Int), .slice a3 n3 c3][j]? := fun j hj => by
          rw [← hcell j hj, addr_add, addr_add]
        exact ⟨y, ⟨a1, n1, c1, a2, n2, c2, a3, n3, c3, ⟨key 0 (by decide), key 1 (by decide), key 2 (by decide), key 3 (by decide), key 4 (by decide), key 5 (by decide)⟩, hs⟩, hfew⟩
    obtain ⟨f, hf⟩ : ∃ f : Nat → PB, ∀ i, i < len → AtB W b (o + i * 6) (f i) ∧ fewPB (f i) := by
      haveI : Inhabited PB := ⟨⟨0, [], 0, [], 0, []⟩⟩
      exact Go.Deep.choose_lt each
    refine ⟨_, len, m, (List.range len).map f, rfl, ⟨by simp, hl, hm', Or.inr ⟨b, o, rfl, fun i hi => ?_⟩⟩, fun y hy => ?_⟩
    · rw [List.getElem_map, List.getElem_range]
      exact (hf i (by simpa using hi)).1
    · obtain ⟨i, hi, rfl⟩ := List.mem_map.1 hy
      exact (hf i (List.mem_range.1 hi)).2
/-- a slice of triples, as an argument -/
theorem open_bs {H : Type} {enc : TypeId × Value → H} {W : World} {base : Nat} {v : Value} {d : DataW H} {ps : List MemPlace} (hval : Value.okWide Tryd.prog W .any base 40 v) (h : DataW.Trod enc Tryd.prog W 0 (fun _ => true) true 40 v d ps) (hr : Room d 40) :
    ∃ a n cap L, v = .slice a n cap ∧ SlB W a n cap L ∧ ∀ y ∈ L, fewPB y := by
  obtain ⟨fuel, hf⟩ := h
  obtain ⟨a, n, cap, L, hc, h1, h2⟩ := open_pbs hf hr
  refine ⟨a, n, cap, L, ?_, h1, h2⟩
  cases v with
  | slice a' n' c' =>
    simp [Value.cells] at hc
    obtain ⟨rfl, rfl, rfl⟩ := hc
    rfl
  | agg cells => simp [Value.okWide, Cell.okWide, Cell.ok, Tryd.underlying40] at hval
  | _ => simp [Value.cells] at hc
/-- a paper, as an argument -/
theorem open_irr {H : Type} {enc : TypeId × Value → H} {W : World} {base : Nat} {v : Value} {d : DataW H} {ps : List MemPlace} (hval : Value.okWide Tryd.prog W .any base 42 v) (h : DataW.Trod enc Tryd.prog W 0 (fun _ => true) true 42 v d ps) (hr : Room d 42) :
    ∃ (p : Nat) (a : Option Addr) (n cap : Nat) (l : List Nat) (wa : Option Addr) (wn wcap : Nat) (L : List PB), v = .agg #[.int .u32 (p : Int), .slice a n cap, .slice wa wn wcap] ∧ p < 4294967296 ∧ Sl W a n cap l ∧ SlB W wa wn wcap L ∧ ∀ y ∈ L, fewPB y := by
  obtain ⟨cs, rfl, hsz⟩ := okWide_struct Tryd.underlying42 hval
  obtain ⟨l⟩ := cs
  have hsz' : l.length = 3 := hsz.trans (by kernel_rfl)
  match l, hsz' with
  | [c0, c1, c2], _ =>
    obtain ⟨fuel, hf⟩ := h
    obtain ⟨y0, y1, m, hx, _, h0, h1⟩ := trod_struct2 Tryd.underlying42 hf
    simp only [Prod.mk.injEq] at hx
    obtain ⟨rfl, _⟩ := hx
    have h0' : DataW.trod enc Tryd.prog W 0 (fun _ => true) true m 25 [c0, c1] = some y0 := h0
    have h1' : DataW.trod enc Tryd.prog W 0 (fun _ => true) true m 40 [c2] = some y1 := h1
    obtain ⟨p, a, n, cap, l, rfl, rfl, b1, s1, b2⟩ := open_ppc h0' (room_each hr Tryd.underlying42 (j := 0) rfl rfl)
    obtain ⟨wa, wn, wcap, L, hc, s2, hfew⟩ := open_pbs h1' (room_each hr Tryd.underlying42 (j := 1) rfl rfl)
    obtain rfl : c2 = .slice wa wn wcap := by simpa using hc
    exact ⟨p, a, n, cap, l, wa, wn, wcap, L, rfl, b1, s1, s2, hfew⟩
end Go.Proofs.YtcbhoedifgghhaaDoor
end
