/- Slices of whole numbers that came in. -/
import Derived.Test.YtbnjmeeaaieicaaDoorR7
import Derived.Test.YtbnjmeeaaieicaaDoorG5
import Derived.Deep.Slices
open Alg
namespace Go.Proofs.YtbnjmeeaaieicaaDoor
open Go.ChangeShapes Go.WideShapes Go.ChangeAt Go.WideMaps Go.WideElems Go.RowKit
set_option linter.unusedVariables false
set_option maxRecDepth 100000
theorem addr_addZ (b o i : Nat) : (⟨b, o, none⟩ : Addr).add i = ⟨b, o + i, none⟩ := by
  unfold Addr.add; split
  · rename_i h0; subst h0; rfl
  · rfl
/-- two cells that are a whole number -/
theorem open_aic {H : Type} {enc : TypeId × Value → H} {W : World} {fuel : Nat} {c0 c1 : Value} {x : DataW H × List MemPlace} (h : DataW.trod enc Tryd.prog W 0 (fun _ => true) true fuel 25 [c0, c1] = some x) :
    ∃ (neg : Bool) (a : Option Addr) (n cap : Nat) (l : List Nat), c0 = .bool neg ∧ c1 = .slice a n cap ∧ Sl W a n cap l := by
  obtain ⟨y0, y1, m, rfl, _, h0, h1⟩ := trod_struct2 Tryd.underlying25 h
  have h0' : DataW.trod enc Tryd.prog W 0 (fun _ => true) true m 4 [c0] = some y0 := h0
  have h1' : DataW.trod enc Tryd.prog W 0 (fun _ => true) true m 23 [c1] = some y1 := h1
  obtain ⟨b, e0, _⟩ := DataW.trod_bool Tryd.underlying4 h0'
  have e0' : c0 = .bool b := by simpa using e0
  rcases open_ints Tryd.underlying23 Tryd.underlying22 (by kernel_rfl) h1' with ⟨hcs, _⟩ | ⟨x, l, c, zs, hcs, _, hl, hm, hz, _, hcell, hwz⟩
  · exact ⟨b, none, 0, 0, [], e0', by simpa using hcs, Sl.of_nil _ _ _ (by omega)⟩
  · exact ⟨b, some x, l, c, _, e0', by simpa using hcs, sl_of hl hm (by simpa using hz) hcell hwz⟩
/-- a polynomial with whole coefficients, as an argument -/
theorem open_zp {H : Type} {enc : TypeId × Value → H} {W : World} {base : Nat} {v : Value} {d : DataW H} {ps : List MemPlace} (hval : Value.okWide Tryd.prog W .any base 62 v) (h : DataW.Trod enc Tryd.prog W 0 (fun _ => true) true 62 v d ps) :
    ∃ a n cap L, v = .slice a n cap ∧ SlK kInt W a n cap L := by
  obtain ⟨fuel, hf⟩ := h
  have key : ∃ a n cap L, v.cells.toList = [.slice a n cap] ∧ SlK kInt W a n cap L := by
    rcases Go.Deep.open_slice Tryd.underlying62 hf with ⟨hc, _⟩ | ⟨a, len, cap, m, n, D, Pl, hc, hb, hl, hm, hmm, _, hx⟩
    · exact ⟨none, 0, 0, [], hc, ⟨rfl, Nat.le_refl _, by omega, Or.inl rfl⟩⟩
    · have hmm' : m = cap := by simpa using hmm
      subst hmm'
      have hm' : m ≤ 9223372036854775807 := by unfold maxLen at hm; omega
      rcases Nat.eq_zero_or_pos len with rfl | h0
      · exact ⟨some a, 0, m, [], hc, ⟨rfl, hl, hm', Or.inl rfl⟩⟩
      have hs : a.spot = none := by
        obtain ⟨cs', h1, h2⟩ := hx 0 (by omega)
        rw [cellsI] at h1
        obtain ⟨_, hlen, hcell⟩ := World.cells?_some h1
        have h3 := hcell 0 (by omega)
        rw [List.getElem?_eq_getElem (by omega)] at h3
        have := World.cell?_spot h3
        simpa [Addr.add] using this
      obtain ⟨b, o, sp⟩ := a
      obtain rfl : sp = none := hs
      have each : ∀ i, i < len → ∃ y : Bool × List Nat, ∃ vs, (∀ j, j < kInt.sz → W.cell? ⟨b, o + i * kInt.sz + j, none⟩ = vs[j]?) ∧ kInt.ok W [] vs y := fun i hi => by
        obtain ⟨cs', h1, h2⟩ := hx i (by omega)
        rw [cellsI] at h1
        obtain ⟨_, hlen, hcell⟩ := World.cells?_some h1
        match cs', hlen with
        | [x0, x1], _ =>
          obtain ⟨neg, a1, n1, c1, l1, rfl, rfl, s1⟩ := open_aic h2
          refine ⟨(neg, l1), _, fun j hj => ?_, a1, n1, c1, rfl, s1, fun r hr => absurd hr (by simp)⟩
          rw [← hcell j hj, addr_addZ, addr_addZ]
          rfl
      obtain ⟨f, hf⟩ : ∃ f : Nat → Bool × List Nat, ∀ i, i < len → ∃ vs, (∀ j, j < kInt.sz → W.cell? ⟨b, o + i * kInt.sz + j, none⟩ = vs[j]?) ∧ kInt.ok W [] vs (f i) := Go.Deep.choose_lt each
      refine ⟨_, len, m, (List.range len).map f, hc, ⟨by simp, hl, hm', Or.inr ⟨b, o, rfl, fun i hi => ?_⟩⟩⟩
      rw [List.getElem_map, List.getElem_range]
      exact hf i (by simpa using hi)
  obtain ⟨a, n, cap, L, hc, hL⟩ := key
  refine ⟨a, n, cap, L, ?_, hL⟩
  cases v with
  | slice a' n' c' =>
    simp [Value.cells] at hc
    obtain ⟨rfl, rfl, rfl⟩ := hc
    rfl
  | agg cells => simp [Value.okWide, Cell.okWide, Cell.ok, Tryd.underlying62] at hval
  | _ => simp [Value.cells] at hc
end Go.Proofs.YtbnjmeeaaieicaaDoor
