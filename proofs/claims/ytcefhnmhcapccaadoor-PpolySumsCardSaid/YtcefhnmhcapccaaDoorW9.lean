/- Contract of slices.Clone at []uint32. -/
import Derived.Test.YtcefhnmhcapccaaDoorW2
import Derived.Test.YtcefhnmhcapccaaDoorWB
import Derived.Lib.SliceRun
open Alg
namespace Go.Proofs.YtcefhnmhcapccaaDoor
open Go.RowKit
theorem Tryd.infoU9 : (Tryd.prog.info? 22).map (fun i => (i.zero, i.size, i.bytes)) = some (some (.int .u32 0), 1, 4) := by kernel_rfl
/-- the call hands back a slice of its own -/
def RetOwn (l : List Nat) (w : World) (e : Ending) (w' : World) : Prop :=
  ∃ v, e = .returned v ∧ Gr w' 22 w.heap.size v l.length l ∧ Below w.heap.size w w'
theorem vals_one (l : List Nat) : ∀ u ∈ vals l, u.oneCell' = true := by
  intro u hu
  obtain ⟨c, _, rfl⟩ := List.mem_map.1 hu
  rfl
set_option maxRecDepth 100000 in
theorem clone_some (x : Addr) (n cap : Nat) (l : List Nat) (w : World) (h : Sl w (some x) n cap l) (hn : n ≤ 1099511627776) :
    Calls Tryd.prog 57 #[.slice (some x) n cap] w (RetOwn l w) := by
  obtain ⟨i0, hi, hz0, hz1, hz2⟩ := info_parts Tryd.infoU9
  have hsl := h.len
  have hnews : ∀ j u, (vals l)[j]? = some u → (w.alloc (.cells #[] 22)).cell? (x.add j) = some u := by
    intro j u hj
    have hjl : j < l.length := by
      rcases Nat.lt_or_ge j l.length with h1 | h1
      · exact h1
      · rw [List.getElem?_eq_none (by simpa [vals] using h1)] at hj; exact absurd hj (by simp)
    rw [vals_get l j hjl] at hj
    have hu : Value.int .u32 (nth l j : Nat) = u := by simpa using hj
    subst hu
    rcases h.rd with h0 | ⟨b, off, ha, hc⟩
    · omega
    · simp only [Option.some.injEq] at ha
      subst ha
      have hcj := hc j (by omega)
      have e : (⟨b, off, none⟩ : Addr).add j = ⟨b, off + j, none⟩ := by
        unfold Addr.add; split
        · rename_i h0; subst h0; rfl
        · rfl
      rw [e, cell_past _ _ (cell_lt hcj)]; exact hcj
  have hone := vals_one l
  have hvl : (vals l).length = n * 1 := by simp [vals, hsl]
  have q1 : 0 + n ≤ maxLen := by unfold maxLen; omega
  have q2 : (0 + n) * 4 ≤ 140737488355328 := by omega
  have hown : (w.alloc (.cells #[] 22)).ownsRow w.heap.size 22 1 (.slice (some ⟨w.heap.size, 0, none⟩) 0 0) 0 [] := by
    refine ⟨rfl, Or.inr ⟨w.heap.size, 0, #[], rfl, Nat.le_refl _, ?_, Nat.le_refl _, Nat.zero_le _, rfl, rfl⟩⟩
    show (w.heap.push _)[w.heap.size]? = _
    rw [Array.getElem?_push_size]
  have HO := Alg.hid hown
  have HN := Alg.hid hnews
  have H1 := Alg.hid hone
  have HV := Alg.hid hvl
  clear hown hnews hone hvl
  have hnil := fun (w : World) (a : Option Addr) (n c n' c' : Nat) => Lib.run_eql_slice_nil (P := Tryd.prog) w 23 22 a n c n' c' Tryd.underlying23
  go_enter Tryd.func57, Tryd.ntmps57
  go_wp2_with (at_builtin; refine wpList_append_own _ rfl _ _ 23 rfl w.heap.size 22 i0 (.int .u32 0) 1 4 Tryd.underlying23 hi hz0 hz1 hz2 rfl Nat.one_pos _ 0 [] rfl HO.out x n cap (vals l) rfl HV.out HN.out H1.out q1 q2 (size_le_alloc _ _) ?_; intro v' w1 hown1 hgrow _)
  go_ret
  have hlt := h.lt
  refine ⟨v', rfl, ⟨by rw [hsl]; simpa using hown1, hlt⟩, ((Below.refl w.heap.size w).alloc (Nat.le_refl _) _).grown hgrow (by simp) ?_⟩
  intro k hk
  have hk' : some w.heap.size = some k := hk
  have := Option.some.inj hk'
  omega
set_option maxRecDepth 100000 in
theorem clone_none (n cap : Nat) (l : List Nat) (w : World) (h : Sl w none n cap l) :
    Calls Tryd.prog 57 #[.slice none n cap] w (RetOwn l w) := by
  have hl : l = [] := by
    rcases h.rd with h0 | ⟨b, off, ha, _⟩
    · exact List.length_eq_zero_iff.1 (by rw [h.len, h0])
    · exact absurd ha (by simp)
  subst hl
  have hnil := fun (w : World) (a : Option Addr) (n c n' c' : Nat) => Lib.run_eql_slice_nil (P := Tryd.prog) w 23 22 a n c n' c' Tryd.underlying23
  go_enter Tryd.func57, Tryd.ntmps57
  go_wp2
  go_ret
  exact ⟨_, rfl, Gr.nil _ _ _, by go_grown⟩
theorem clone_any (a : Option Addr) (n cap : Nat) (l : List Nat) (w : World) (h : Sl w a n cap l) (hn : n ≤ 1099511627776) :
    Calls Tryd.prog 57 #[.slice a n cap] w (RetOwn l w) := by
  cases a with
  | none => exact clone_none n cap l w h
  | some x => exact clone_some x n cap l w h hn
end Go.Proofs.YtcefhnmhcapccaaDoor
