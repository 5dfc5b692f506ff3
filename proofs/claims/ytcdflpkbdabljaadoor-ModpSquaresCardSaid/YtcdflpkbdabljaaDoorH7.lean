/- Boxes that the law of the boxes hands over: one, two; where they don't lie. -/
import Derived.Test.YtcdflpkbdabljaaDoorH6
import Derived.Test.YtcdflpkbdabljaaDoorW26
open Go Go.RowKit
namespace Alg
/-- a canonical row does not lie in a new box -/
theorem off_new {W : World} {b p : Nat} {T : TypeId} {a : Option Addr} {n c : Nat} {l : List Nat} (h : W.heap[b]? = some (.cells #[.int .u32 0, .slice none 0 0] T)) (s : Sl W a n c l) (cl : Canon p l) : Off a n b := by
  rcases s.rd with h1 | ⟨b', off, rfl, hc⟩
  · exact Or.inl h1
  by_cases hn : n = 0
  · exact Or.inl hn
  refine Or.inr (fun b2 o2 s2 he hb => ?_)
  simp only [Option.some.injEq, Addr.mk.injEq] at he
  obtain ⟨rfl, _, _⟩ := he
  subst hb
  have h2 := ((obj_cells h).2.1 _).symm.trans (hc (n - 1) (by omega))
  have hl := s.len
  have h3 : nth l (n - 1) ≠ 0 := by
    rcases cl.top with h | h
    · rw [h] at hl; simp at hl; omega
    · rw [← hl]; exact h
  generalize off + (n - 1) = j at h2
  match j, h2 with
  | 0, h2 => simp at h2; omega
  | 1, h2 => simp at h2
  | j + 2, h2 => simp at h2
theorem box_of_obj {W : World} {b : Nat} {cs : Array Value} {T : TypeId} (h : W.heap[b]? = some (.cells cs T)) : Box W b cs :=
  ⟨(obj_cells h).1, fun i _ hv => ((obj_cells h).2.1 i).trans hv, (obj_cells h).2.2⟩
theorem good2 {x y : Lay} {w0 w : World} {bl : Nat → Option Nat} (hne : x.op ≠ y.op) (hS : ∀ z ∈ [x, y], (bl z.op).isSome = true) (hG : Good [x, y] w0 bl w) :
    ∃ b c, (∀ a, acts [x, y] bl a = (a.put (some x.dst) (.pointer (some ⟨b, 0, none⟩))).put (some y.dst) (.pointer (some ⟨c, 0, none⟩))) ∧ b ≠ c ∧ w0.heap.size ≤ b ∧ w0.heap.size ≤ c ∧ w.heap[b]? = some (.cells x.cs x.ty) ∧ w.heap[c]? = some (.cells y.cs y.ty) := by
  have mx : x ∈ [x, y] := by simp
  have my : y ∈ [x, y] := by simp
  obtain ⟨b, eb⟩ := Option.isSome_iff_exists.1 (hS x mx)
  obtain ⟨c, ec⟩ := Option.isSome_iff_exists.1 (hS y my)
  obtain ⟨b1, b2⟩ := hG.obj x mx b eb
  obtain ⟨c1, c2⟩ := hG.obj y my c ec
  refine ⟨b, c, fun a => ?_, fun e => hG.ne x mx y my hne b eb (by rw [e]; exact ec), b1, c1, b2, c2⟩
  show act1 bl y (act1 bl x a) = _
  rw [act1_some eb, act1_some ec]
theorem good1 {x : Lay} {w0 w : World} {bl : Nat → Option Nat} (hS : ∀ z ∈ [x], (bl z.op).isSome = true) (hG : Good [x] w0 bl w) :
    ∃ b, (∀ a, acts [x] bl a = a.put (some x.dst) (.pointer (some ⟨b, 0, none⟩))) ∧ w0.heap.size ≤ b ∧ w.heap[b]? = some (.cells x.cs x.ty) := by
  have mx : x ∈ [x] := by simp
  obtain ⟨b, eb⟩ := Option.isSome_iff_exists.1 (hS x mx)
  obtain ⟨b1, b2⟩ := hG.obj x mx b eb
  refine ⟨b, fun a => ?_, b1, b2⟩
  show act1 bl x a = _
  rw [act1_some eb]
theorem off_newI {W : World} {b : Nat} {T : TypeId} {a : Option Addr} {n c : Nat} {l : List Nat} (h : W.heap[b]? = some (.cells #[.bool false, .slice none 0 0] T)) (s : Sl W a n c l) : Off a n b := by
  rcases s.rd with h1 | ⟨b', off, rfl, hc⟩
  · exact Or.inl h1
  by_cases hn : n = 0
  · exact Or.inl hn
  refine Or.inr (fun b2 o2 s2 he hb => ?_)
  simp only [Option.some.injEq, Addr.mk.injEq] at he
  obtain ⟨rfl, _, _⟩ := he
  subst hb
  have h2 := ((obj_cells h).2.1 _).symm.trans (hc (n - 1) (by omega))
  generalize off + (n - 1) = j at h2
  match j, h2 with
  | 0, h2 => simp at h2
  | 1, h2 => simp at h2
  | j + 2, h2 => simp at h2
end Alg
