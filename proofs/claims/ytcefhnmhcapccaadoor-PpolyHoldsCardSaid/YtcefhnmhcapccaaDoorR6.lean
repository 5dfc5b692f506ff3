/- Polynomials and Bezout triples that came in, with the room that they may take. -/
import Derived.Test.YtcefhnmhcapccaaDoorR1
import Derived.SizedLaws
import Derived.Deep.Strs
open Alg
namespace Go.Proofs.YtcefhnmhcapccaaDoor
open Go.ChangeShapes Go.WideShapes Go.ChangeAt Go.WideMaps Go.WideElems Go.RowKit
set_option linter.unusedVariables false
set_option maxRecDepth 100000
/-- the room that each row may take -/
def Room {H : Type} (d : DataW H) (t : TypeId) : Prop := ∀ k ∈ d.weights Tryd.prog t, k ≤ reachBytes
theorem bytesU : Tryd.prog.bytesOf 22 = 4 := by kernel_rfl
theorem room_len {H : Type} {e s : List (DataW H)} {cap : Nat} (h : Room (.slice e s) 23) (hl : e.length + s.length = cap) : cap ≤ 35184372087808 := by
  have h1 := h ((e.length + s.length) * Tryd.prog.bytesOf 22) (by simp [DataW.weights, Tryd.underlying23])
  rw [bytesU, hl] at h1
  have : reachBytes = 140737488351232 := rfl
  omega
theorem room_each {H : Type} {l : List (DataW H)} {t : TypeId} {fs : Array Field} (h : Room (.agg l) t) (hs : Tryd.prog.underlying t = some (.struct fs)) {j : Nat} {f : Field} {d : DataW H} (hf : fs[j]? = some f) (hd : l[j]? = some d) : Room d f.type := fun k hk => by
  refine h k ?_
  simp only [DataW.weights, hs]
  exact DataW.weights_mem_each (j := j) (by simp [hf]) hd k hk
/-- a row of uint32 -/
theorem open_row {H : Type} {enc : TypeId × Value → H} {W : World} {fuel : Nat} {cs : List Value} {x : DataW H × List MemPlace} (h : DataW.trod enc Tryd.prog W 0 (fun _ => true) true fuel 23 cs = some x) (hr : Room x.1 23) :
    ∃ a n cap l, cs = [.slice a n cap] ∧ Sl W a n cap l ∧ n ≤ 35184372087808 := by
  rcases open_ints Tryd.underlying23 Tryd.underlying22 (by kernel_rfl) h with ⟨hcs, _⟩ | ⟨x', l, c, zs, hcs, _, hl, hm, hz, hx, hcell, hwz⟩
  · exact ⟨none, 0, 0, [], hcs, Sl.of_nil _ _ _ (by omega), by omega⟩
  · have hz' : zs.length = c := by simpa using hz
    have hc : c ≤ 35184372087808 := by
      rw [hx] at hr
      exact room_len hr (by simp [lits]; omega)
    exact ⟨some x', l, c, _, hcs, sl_of hl hm hz' hcell hwz, by omega⟩
/-- a polynomial -/
theorem open_ppc {H : Type} {enc : TypeId × Value → H} {W : World} {fuel : Nat} {c0 c1 : Value} {x : DataW H × List MemPlace} (h : DataW.trod enc Tryd.prog W 0 (fun _ => true) true fuel 25 [c0, c1] = some x) (hr : Room x.1 25) :
    ∃ (p : Nat) (a : Option Addr) (n cap : Nat) (l : List Nat), c0 = .int .u32 (p : Int) ∧ c1 = .slice a n cap ∧ p < 4294967296 ∧ Sl W a n cap l ∧ n ≤ 35184372087808 := by
  obtain ⟨y0, y1, m, rfl, _, h0, h1⟩ := trod_struct2 Tryd.underlying25 h
  have h0' : DataW.trod enc Tryd.prog W 0 (fun _ => true) true m 22 [c0] = some y0 := h0
  have h1' : DataW.trod enc Tryd.prog W 0 (fun _ => true) true m 23 [c1] = some y1 := h1
  obtain ⟨k, e0, _, hk⟩ := DataW.trod_int Tryd.underlying22 h0'
  have e0' : c0 = .int .u32 k := by simpa using e0
  have hkb := bounds_u32 hk
  obtain ⟨a, n, cap, l, hc, hs, hn⟩ := open_row h1' (room_each hr Tryd.underlying25 (j := 1) rfl rfl)
  refine ⟨k.toNat, a, n, cap, l, by rw [e0', Int.toNat_of_nonneg hkb.1], by simpa using hc, by omega, hs, hn⟩
theorem open_pp2 {H : Type} {enc : TypeId × Value → H} {W : World} {base : Nat} {v : Value} {d : DataW H} {ps : List MemPlace} (hval : Value.okWide Tryd.prog W .any base 25 v) (h : DataW.Trod enc Tryd.prog W 0 (fun _ => true) true 25 v d ps) (hr : Room d 25) :
    ∃ (p : Nat) (a : Option Addr) (n cap : Nat) (l : List Nat), v = .agg #[.int .u32 (p : Int), .slice a n cap] ∧ p < 4294967296 ∧ Sl W a n cap l ∧ n ≤ 35184372087808 := by
  obtain ⟨cs, rfl, hsz⟩ := okWide_struct Tryd.underlying25 hval
  obtain ⟨l⟩ := cs
  have hsz' : l.length = 2 := hsz.trans cellsP
  match l, hsz' with
  | [c0, c1], _ =>
    obtain ⟨fuel, hf⟩ := h
    obtain ⟨p, a, n, cap, l, rfl, rfl, h1, h2, h3⟩ := open_ppc (c0 := c0) (c1 := c1) hf hr
    exact ⟨p, a, n, cap, l, rfl, h1, h2, h3⟩
/-- a triple -/
theorem open_pb {H : Type} {enc : TypeId × Value → H} {W : World} {base : Nat} {v : Value} {d : DataW H} {ps : List MemPlace} (hval : Value.okWide Tryd.prog W .any base 35 v) (h : DataW.Trod enc Tryd.prog W 0 (fun _ => true) true 35 v d ps) (hr : Room d 35) :
    ∃ (p1 : Nat) (a1 : Option Addr) (n1 c1 : Nat) (l1 : List Nat) (p2 : Nat) (a2 : Option Addr) (n2 c2 : Nat) (l2 : List Nat) (p3 : Nat) (a3 : Option Addr) (n3 c3 : Nat) (l3 : List Nat),
      v = .agg #[.int .u32 (p1 : Int), .slice a1 n1 c1, .int .u32 (p2 : Int), .slice a2 n2 c2, .int .u32 (p3 : Int), .slice a3 n3 c3] ∧ Sl W a1 n1 c1 l1 ∧ Sl W a2 n2 c2 l2 ∧ Sl W a3 n3 c3 l3 ∧ n1 ≤ 35184372087808 ∧ n2 ≤ 35184372087808 ∧ n3 ≤ 35184372087808 := by
  obtain ⟨cs, rfl, hsz⟩ := okWide_struct Tryd.underlying35 hval
  obtain ⟨l⟩ := cs
  have hsz' : l.length = 6 := hsz.trans (by kernel_rfl)
  match l, hsz' with
  | [x0, x1, x2, x3, x4, x5], _ =>
    obtain ⟨fuel, hf⟩ := h
    obtain ⟨y0, y1, y2, m, hx, _, h0, h1, h2⟩ := Go.Deep.trod_struct3 Tryd.underlying35 hf
    simp only [Prod.mk.injEq] at hx
    obtain ⟨rfl, _⟩ := hx
    have h0' : DataW.trod enc Tryd.prog W 0 (fun _ => true) true m 25 [x0, x1] = some y0 := h0
    have h1' : DataW.trod enc Tryd.prog W 0 (fun _ => true) true m 25 [x2, x3] = some y1 := h1
    have h2' : DataW.trod enc Tryd.prog W 0 (fun _ => true) true m 25 [x4, x5] = some y2 := h2
    obtain ⟨p1, a1, n1, c1, l1, rfl, rfl, _, s1, b1⟩ := open_ppc h0' (room_each hr Tryd.underlying35 (j := 0) rfl rfl)
    obtain ⟨p2, a2, n2, c2, l2, rfl, rfl, _, s2, b2⟩ := open_ppc h1' (room_each hr Tryd.underlying35 (j := 1) rfl rfl)
    obtain ⟨p3, a3, n3, c3, l3, rfl, rfl, _, s3, b3⟩ := open_ppc h2' (room_each hr Tryd.underlying35 (j := 2) rfl rfl)
    exact ⟨p1, a1, n1, c1, l1, p2, a2, n2, c2, l2, p3, a3, n3, c3, l3, rfl, s1, s2, s3, b1, b2, b3⟩
end Go.Proofs.YtcefhnmhcapccaaDoor
