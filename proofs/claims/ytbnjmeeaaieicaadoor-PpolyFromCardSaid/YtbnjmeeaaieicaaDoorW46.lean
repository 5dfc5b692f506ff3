/- mod, by the program and by the reference; the sign of a whole number; the polynomial 1; what the rounds of a power keep. Boxes that the law of the boxes hands over: one, two; where they don't lie. What a round of a power keeps, in plain words; boxes laid at any time, handed over. -/
import Derived.Test.YtbnjmeeaaieicaaDoorA16
import Derived.Test.YtbnjmeeaaieicaaDoorW27
import Derived.Test.YtbnjmeeaaieicaaDoorW15
import Derived.Test.YtbnjmeeaaieicaaDoorHH
import Derived.Test.YtbnjmeeaaieicaaDoorA9
import Derived.Shelf.Spec.TrailingZeros
section
open Alg Go Go.RowKit
namespace Alg
theorem Sl.set2 {w : World} {a : Option Addr} {n cap : Nat} {l : List Nat} (h : Sl w a n cap l) {b : Nat} (ho : Off a n b) (u v : Value) : Sl ((w.setCell ⟨b, 0, none⟩ u).setCell ⟨b, 1, none⟩ v) a n cap l := (h.setCell ho u).setCell ho v
theorem Boxes.set2 {w W : World} {L : List (Array Value)} (h : Boxes w W L) {b : Nat} (hb : w.heap.size + L.length ≤ b) (u v : Value) : Boxes w ((W.setCell ⟨b, 0, none⟩ u).setCell ⟨b, 1, none⟩ v) L := (h.setCell hb u).setCell hb v
theorem Box.other2 {W : World} {b : Nat} {cs : Array Value} (h : Box W b cs) {g : Nat} (hne : b ≠ g) (u v : Value) : Box ((W.setCell ⟨g, 0, none⟩ u).setCell ⟨g, 1, none⟩ v) b cs := (h.other 0 hne u).other 1 hne v
theorem Below.set2 {n : Nat} {w W : World} (h : Below n w W) {b : Nat} (hb : n ≤ b) (u v : Value) : Below n w ((W.setCell ⟨b, 0, none⟩ u).setCell ⟨b, 1, none⟩ v) := (h.setCell (p := ⟨b, 0, none⟩) hb u).setCell (p := ⟨b, 1, none⟩) hb v
/-- two polynomials in boxes b and c of the call's own, which lie behind the call's other variables L; their rows are new and lie in none of the blocks R -/
structure PW (w W : World) (L : List (Array Value)) (p b c : Nat) (R : List Nat) (O S : List Nat) : Prop where
  bx : Boxes w W L
  hb : w.heap.size + L.length ≤ b
  hc : w.heap.size + L.length ≤ c
  ne : b ≠ c
  lt : ∀ r ∈ R, r < W.heap.size
  one : ∃ a n cap, Box W b #[.int .u32 (p : Int), .slice a n cap] ∧ Sl W a n cap O ∧ (∀ r ∈ R, Off a n r) ∧ Prov w [] a n
  two : ∃ a n cap, Box W c #[.int .u32 (p : Int), .slice a n cap] ∧ Sl W a n cap S ∧ (∀ r ∈ R, Off a n r) ∧ Prov w [] a n
theorem PW.mono {w W W' : World} {L : List (Array Value)} {p b c : Nat} {R : List Nat} {O S : List Nat} (h : PW w W L p b c R O S) (hb : Below W.heap.size W W') : PW w W' L p b c R O S := by
  obtain ⟨a, n, cap, h1, h2, h3⟩ := h.one
  obtain ⟨a', n', cap', k1, k2, k3⟩ := h.two
  exact ⟨h.bx.mono hb, h.hb, h.hc, h.ne, fun r hr => Nat.lt_of_lt_of_le (h.lt r hr) hb.size, ⟨a, n, cap, h1.mono hb, h2.mono hb, h3⟩, ⟨a', n', cap', k1.mono hb, k2.mono hb, k3⟩⟩
theorem PW.drew {w W : World} {L : List (Array Value)} {p b c : Nat} {R : List Nat} {O S : List Nat} (h : PW w W L p b c R O S) : PW w W.drew L p b c R O S := h.mono ⟨rfl, rfl, rfl, Nat.le_refl _, fun _ _ => rfl⟩
/-- what is new behind W lies in none of the blocks -/
theorem PW.fresh {w W : World} {L : List (Array Value)} {p b c : Nat} {R : List Nat} {O S : List Nat} (h : PW w W L p b c R O S) {a : Option Addr} {n : Nat} (hp : Prov W [] a n) : (∀ r ∈ R, Off a n r) ∧ Prov w [] a n :=
  ⟨fun r hr => hp.off0 (h.lt r hr), hp.mono (by have := h.bx.size; omega)⟩
theorem size_set2 (W : World) (b : Nat) (u v : Value) : ((W.setCell ⟨b, 0, none⟩ u).setCell ⟨b, 1, none⟩ v).heap.size = W.heap.size := by
  simp only [World.setCell, Array.size_modify]
theorem PW.set1 {w W : World} {L : List (Array Value)} {p b c : Nat} {R : List Nat} {O S O' : List Nat} (h : PW w W L p b c R O S) {a : Option Addr} {n cap : Nat} (hs : Sl W a n cap O') (ho : (∀ r ∈ R, Off a n r) ∧ Prov w [] a n) (hbR : b ∈ R) :
    PW w ((W.setCell ⟨b, 0, none⟩ (.int .u32 (p : Int))).setCell ⟨b, 1, none⟩ (.slice a n cap)) L p b c R O' S := by
  obtain ⟨a', n', cap', k1, k2, k3, k4⟩ := h.two
  obtain ⟨_, _, _, h1, _, _⟩ := h.one
  exact ⟨h.bx.set2 h.hb _ _, h.hb, h.hc, h.ne, fun r hr => by rw [size_set2]; exact h.lt r hr, ⟨a, n, cap, h1.put2 _ _, hs.set2 (ho.1 b hbR) _ _, ho⟩, ⟨a', n', cap', k1.other2 (fun e => h.ne e.symm) _ _, k2.set2 (k3 b hbR) _ _, k3, k4⟩⟩
theorem PW.set2 {w W : World} {L : List (Array Value)} {p b c : Nat} {R : List Nat} {O S S' : List Nat} (h : PW w W L p b c R O S) {a : Option Addr} {n cap : Nat} (hs : Sl W a n cap S') (ho : (∀ r ∈ R, Off a n r) ∧ Prov w [] a n) (hcR : c ∈ R) :
    PW w ((W.setCell ⟨c, 0, none⟩ (.int .u32 (p : Int))).setCell ⟨c, 1, none⟩ (.slice a n cap)) L p b c R O S' := by
  obtain ⟨a', n', cap', k1, k2, k3, k4⟩ := h.one
  obtain ⟨_, _, _, h1, _, _⟩ := h.two
  exact ⟨h.bx.set2 h.hc _ _, h.hb, h.hc, h.ne, fun r hr => by rw [size_set2]; exact h.lt r hr, ⟨a', n', cap', k1.other2 h.ne _ _, k2.set2 (k3 c hcR) _ _, k3, k4⟩, ⟨a, n, cap, h1.put2 _ _, hs.set2 (ho.1 c hcR) _ _, ho⟩⟩
/-- the call hands back a polynomial and an error's number -/
def RetPE (p : Nat) (l : List Nat) (err : Int) (w : World) (e : Ending) (w' : World) : Prop :=
  ∃ a n cap, e = .returned (.tuple #[.agg #[.int .u32 (p : Nat), .slice a n cap], .int .i64 err]) ∧ Sl w' a n cap l ∧ Below w.heap.size w w' ∧ Prov w [] a n
end Alg
namespace Go.Proofs.YtbnjmeeaaieicaaDoor
open Go.RowKit
set_option maxHeartbeats 600000 in
theorem ppoly_mod (p : Nat) (fa : Option Addr) (fn fcap : Nat) (fl : List Nat) (ga : Option Addr) (gn gcap : Nat) (gl : List Nat) (q : Int) (w : World) (hf : Sl w fa fn fcap fl) (hg : Sl w ga gn gcap gl)
    (hg0 : 0 < gn) (hlead : nth gl (gn - 1) ≠ 0) (hp0 : 1 < p) (hp : p < 4294967296) (hfn : fn ≤ 1099511627776) (hgn : gn ≤ 1099511627776) :
    Calls Tryd.prog 95 #[.agg #[.int .u32 (p : Int), .slice fa fn fcap], .agg #[.int .u32 q, .slice ga gn gcap]] w (RetP p (remL p fl gl) [] w) := by
  have hbx := boxes3 w #[.int .u32 (p : Int), .slice fa fn fcap] #[.int .u32 q, .slice ga gn gcap] #[.int .u32 0, .slice none 0 0] 47 47 47
  go_enter Tryd.func95, Tryd.ntmps95
  go_wp2_with fail
  generalize hW0 : (((w.alloc (.cells #[.int .u32 (p : Int), .slice fa fn fcap] 47)).alloc (.cells #[.int .u32 q, .slice ga gn gcap] 47)).alloc (.cells #[.int .u32 0, .slice none 0 0] 47)) = W0 at hbx ⊢
  clear hW0
  have hsz : w.heap.size + 3 ≤ W0.heap.size := hbx.size
  refine (ppoly_DivMod p fa fn fcap fl ga gn gcap gl q W0 (hf.mono hbx.below) (hg.mono hbx.below) hg0 hlead hp0 hp hfn hgn).mono ?_
  rintro e w1 ⟨qa, qn, qc, ra, rn, rc, rfl, hq, hr, hb1, pq, pr⟩
  have hx1 := hbx.mono hb1
  have hz := (hx1.alloc_any (.cells #[.int .u32 (p : Int), .slice qa qn qc] 47)).alloc_any (.cells #[.int .u32 (p : Int), .slice ra rn rc] 47)
  have hrz : Sl ((w1.alloc (.cells #[.int .u32 (p : Int), .slice qa qn qc] 47)).alloc (.cells #[.int .u32 (p : Int), .slice ra rn rc] 47)) ra rn rc (trim (divL p fl gl).2) := (hr.alloc _).alloc _
  have r0 := hz.cell' 2 0 _ _ rfl rfl
  have r1 := hz.cell' 2 1 _ _ rfl rfl
  have f0 := hz.frozen' 2 0 (by simp)
  have f1 := hz.frozen' 2 1 (by simp)
  have oR : Off ra rn (w.heap.size + 2) := pr.off0 (by omega)
  clear hq pq
  go_wp2
  (try simp only [Exit.inBlock, Exit.then])
  refine bodyPost_ret (v := .agg #[.int .u32 (p : Int), .slice ra rn rc]) (by simp [results, Tryd.results95, go_sem, r0, r1]) rfl ?_
  exact ⟨ra, rn, rc, rfl, hrz.set2 oR _ _, Alg.Below.set2 hz.below (by omega) _ _, pr.mono (by omega)⟩
set_option maxHeartbeats 600000 in
theorem ref_mod (p : Nat) (fa : Option Addr) (fn fcap : Nat) (fl : List Nat) (ga : Option Addr) (gn gcap : Nat) (gl : List Nat) (q : Int) (w : World) (hf : Sl w fa fn fcap fl) (hg : Sl w ga gn gcap gl)
    (hg0 : 0 < gn) (hp0 : 1 < p) (hp : p < 4294967296) (hfn : fn ≤ 1099511627776) (hgn : gn ≤ 1099511627776) :
    Calls Tryd.prog 96 #[.agg #[.int .u32 (p : Int), .slice fa fn fcap], .agg #[.int .u32 q, .slice ga gn gcap]] w (RetP p (remL p fl gl) [] w) := by
  have hbx := boxes3 w #[.int .u32 (p : Int), .slice fa fn fcap] #[.int .u32 q, .slice ga gn gcap] #[.int .u32 0, .slice none 0 0] 47 47 47
  go_enter Tryd.func96, Tryd.ntmps96
  go_wp2_with fail
  generalize hW0 : (((w.alloc (.cells #[.int .u32 (p : Int), .slice fa fn fcap] 47)).alloc (.cells #[.int .u32 q, .slice ga gn gcap] 47)).alloc (.cells #[.int .u32 0, .slice none 0 0] 47)) = W0 at hbx ⊢
  clear hW0
  have hsz : w.heap.size + 3 ≤ W0.heap.size := hbx.size
  refine (ref_DivMod p fa fn fcap fl ga gn gcap gl q W0 (hf.mono hbx.below) (hg.mono hbx.below) hg0 hp0 hp hfn hgn).mono ?_
  rintro e w1 ⟨qa, qn, qc, ra, rn, rc, rfl, hq, hr, hb1, pq, pr⟩
  have hx1 := hbx.mono hb1
  have hz := (hx1.alloc_any (.cells #[.int .u32 (p : Int), .slice qa qn qc] 47)).alloc_any (.cells #[.int .u32 (p : Int), .slice ra rn rc] 47)
  have hrz : Sl ((w1.alloc (.cells #[.int .u32 (p : Int), .slice qa qn qc] 47)).alloc (.cells #[.int .u32 (p : Int), .slice ra rn rc] 47)) ra rn rc (trim (divL p fl gl).2) := (hr.alloc _).alloc _
  have r0 := hz.cell' 2 0 _ _ rfl rfl
  have r1 := hz.cell' 2 1 _ _ rfl rfl
  have f0 := hz.frozen' 2 0 (by simp)
  have f1 := hz.frozen' 2 1 (by simp)
  have oR : Off ra rn (w.heap.size + 2) := pr.off0 (by omega)
  clear hq pq
  go_wp2
  (try simp only [Exit.inBlock, Exit.then])
  refine bodyPost_ret (v := .agg #[.int .u32 (p : Int), .slice ra rn rc]) (by simp [results, Tryd.results96, go_sem, r0, r1]) rfl ?_
  exact ⟨ra, rn, rc, rfl, hrz.set2 oR _ _, Alg.Below.set2 hz.below (by omega) _ _, pr.mono (by omega)⟩
theorem whole_Sign (neg : Bool) (a : Option Addr) (n cap : Nat) (w : World) (hn : n ≤ 9223372036854775807) :
    Calls Tryd.prog 94 #[.agg #[.bool neg, .slice a n cap]] w fun e w' => e = .returned (.int .i64 (if n = 0 then 0 else if neg then -1 else 1)) ∧ Below w.heap.size w w' := by
  have hbx := boxes1 w #[.bool neg, .slice a n cap] 25
  by_cases h0 : n = 0
  · rw [if_pos h0]
    subst h0
    go_enter Tryd.func94, Tryd.ntmps94
    go_wp2
    go_ret
    exact ⟨rfl, hbx.below⟩
  · rw [if_neg h0]
    have hq : ((n : Int) == 0) = false := by simp; omega
    cases neg with
    | true =>
      rw [if_pos rfl]
      go_enter Tryd.func94, Tryd.ntmps94
      go_wp2
      go_ret
      exact ⟨rfl, hbx.below⟩
    | false =>
      rw [if_neg (by decide)]
      go_enter Tryd.func94, Tryd.ntmps94
      go_wp2
      go_ret
      exact ⟨rfl, hbx.below⟩
theorem ref_One (p : Nat) (w : World) :
    Calls Tryd.prog 97 #[.int .u32 (p : Int)] w (RetP p [1] [] w) := by
  have hbx := boxes1 w #[.int .u32 (p : Int), .slice (some ⟨w.heap.size + 1, 0, none⟩) 1 1] 47
  have hz := hbx.alloc_any (.cells #[.int .u32 1] 22)
  have hs := sl_one1' (w.alloc (.cells #[.int .u32 (p : Int), .slice (some ⟨w.heap.size + 1, 0, none⟩) 1 1] 47)) 22 (b := w.heap.size + 1) (by rw [World.size_alloc])
  go_enter Tryd.func97, Tryd.ntmps97
  go_wp2
  (try simp only [Exit.inBlock, Exit.then])
  refine bodyPost_ret (v := .agg #[.int .u32 (p : Int), .slice (some ⟨w.heap.size + 1, 0, none⟩) 1 1]) (by simp [results, Tryd.results97, go_sem]) rfl ?_
  exact ⟨_, _, _, rfl, hs, hz.below, Or.inr (Or.inr ⟨_, _, _, rfl, by omega⟩)⟩
end Go.Proofs.YtbnjmeeaaieicaaDoor
end
section
open Go Go.RowKit
namespace Alg
/-- a canonical row does not lie in a new box -/
theorem off_new {W : World} {b p : Nat} {T : TypeId} {a : Option Addr} {n c : Nat} {l : List Nat} (h : W.heap[b]? = some (.cells #[.int .u32 0, .slice none 0 0] T)) (s : Sl W a n c l) (cl : Canon p l) : Off a n b := by
  rcases s.rd with h1 | ⟨b', off, rfl, hc⟩
  · exact Or.inl h1
  by_cases hn : n = 0
  · exact Or.inl hn
  refine Or.inr (fun b2 o2 s2 he hb => ?_)
  simp only [Option.some.injEq, Addr.mk.injEq] at he
  obtain ⟨rfl, _, _⟩ := he
  subst hb
  have h2 := ((obj_cells h).2.1 _).symm.trans (hc (n - 1) (by omega))
  have hl := s.len
  have h3 : nth l (n - 1) ≠ 0 := by
    rcases cl.top with h | h
    · rw [h] at hl; simp at hl; omega
    · rw [← hl]; exact h
  generalize off + (n - 1) = j at h2
  match j, h2 with
  | 0, h2 => simp at h2; omega
  | 1, h2 => simp at h2
  | j + 2, h2 => simp at h2
theorem box_of_obj {W : World} {b : Nat} {cs : Array Value} {T : TypeId} (h : W.heap[b]? = some (.cells cs T)) : Box W b cs :=
  ⟨(obj_cells h).1, fun i _ hv => ((obj_cells h).2.1 i).trans hv, (obj_cells h).2.2⟩
theorem good2 {x y : Lay} {w0 w : World} {bl : Nat → Option Nat} (hne : x.op ≠ y.op) (hS : ∀ z ∈ [x, y], (bl z.op).isSome = true) (hG : Good [x, y] w0 bl w) :
    ∃ b c, (∀ a, acts [x, y] bl a = (a.put (some x.dst) (.pointer (some ⟨b, 0, none⟩))).put (some y.dst) (.pointer (some ⟨c, 0, none⟩))) ∧ b ≠ c ∧ w0.heap.size ≤ b ∧ w0.heap.size ≤ c ∧ w.heap[b]? = some (.cells x.cs x.ty) ∧ w.heap[c]? = some (.cells y.cs y.ty) := by
  have mx : x ∈ [x, y] := by simp
  have my : y ∈ [x, y] := by simp
  obtain ⟨b, eb⟩ := Option.isSome_iff_exists.1 (hS x mx)
  obtain ⟨c, ec⟩ := Option.isSome_iff_exists.1 (hS y my)
  obtain ⟨b1, b2⟩ := hG.obj x mx b eb
  obtain ⟨c1, c2⟩ := hG.obj y my c ec
  refine ⟨b, c, fun a => ?_, fun e => hG.ne x mx y my hne b eb (by rw [e]; exact ec), b1, c1, b2, c2⟩
  show act1 bl y (act1 bl x a) = _
  rw [act1_some eb, act1_some ec]
theorem good1 {x : Lay} {w0 w : World} {bl : Nat → Option Nat} (hS : ∀ z ∈ [x], (bl z.op).isSome = true) (hG : Good [x] w0 bl w) :
    ∃ b, (∀ a, acts [x] bl a = a.put (some x.dst) (.pointer (some ⟨b, 0, none⟩))) ∧ w0.heap.size ≤ b ∧ w.heap[b]? = some (.cells x.cs x.ty) := by
  have mx : x ∈ [x] := by simp
  obtain ⟨b, eb⟩ := Option.isSome_iff_exists.1 (hS x mx)
  obtain ⟨b1, b2⟩ := hG.obj x mx b eb
  refine ⟨b, fun a => ?_, b1, b2⟩
  show act1 bl x a = _
  rw [act1_some eb]
theorem off_newI {W : World} {b : Nat} {T : TypeId} {a : Option Addr} {n c : Nat} {l : List Nat} (h : W.heap[b]? = some (.cells #[.bool false, .slice none 0 0] T)) (s : Sl W a n c l) : Off a n b := by
  rcases s.rd with h1 | ⟨b', off, rfl, hc⟩
  · exact Or.inl h1
  by_cases hn : n = 0
  · exact Or.inl hn
  refine Or.inr (fun b2 o2 s2 he hb => ?_)
  simp only [Option.some.injEq, Addr.mk.injEq] at he
  obtain ⟨rfl, _, _⟩ := he
  subst hb
  have h2 := ((obj_cells h).2.1 _).symm.trans (hc (n - 1) (by omega))
  generalize off + (n - 1) = j at h2
  match j, h2 with
  | 0, h2 => simp at h2
  | 1, h2 => simp at h2
  | j + 2, h2 => simp at h2
end Alg
end
section
open Alg Go Go.RowKit
namespace Alg
/-- before bit number j: O is the power by the bits below, S the square for this bit (if any is to come) -/
structure PI (p : Nat) (f m : List Nat) (N j : Nat) (O S : List Nat) : Prop where
  eo : O = powL p f m (N % 2 ^ j)
  cs : Canon p S
  ls : S.length < m.length
  es : N / 2 ^ j ≠ 0 → S = powL p f m (2 ^ j)
section
variable {p : Nat} [NeZero p] {f m : List Nat} {N j : Nat} {O S : List Nat}
theorem PI.start (hp : IsPr p) (cf : Canon p f) (cm : Canon p m) (h0 : m ≠ []) (N : Nat) : PI p f m N 0 (remL p [1] m) (remL p f m) where
  eo := by rw [Nat.pow_zero, Nat.mod_one]; rfl
  cs := (remL_md hp cf cm h0).canon
  ls := (remL_md hp cf cm h0).len
  es := fun _ => by rw [Nat.pow_zero, powL_one hp cf cm h0]
omit [NeZero p] in
theorem PI.co (h : PI p f m N j O S) : O = powL p f m (N % 2 ^ j) := h.eo
theorem PI.one (hp : IsPr p) (cf : Canon p f) (cm : Canon p m) (h0 : m ≠ []) (h : PI p f m N j O S) (hb : N / 2 ^ j % 2 = 1) : remL p (mulL p O S) m = powL p f m (N % 2 ^ (j + 1)) := by
  rw [h.eo, h.es (fun e => by rw [e] at hb; omega), powL_add hp cf cm h0, low_step, hb, Nat.mul_one]
omit [NeZero p] in
theorem PI.zero (h : PI p f m N j O S) (hb : ¬ N / 2 ^ j % 2 = 1) : O = powL p f m (N % 2 ^ (j + 1)) := by
  rw [h.eo, low_step, show N / 2 ^ j % 2 = 0 by omega, Nat.mul_zero, Nat.add_zero]
theorem half_div (N j : Nat) : N / 2 ^ (j + 1) = N / 2 ^ j / 2 := by rw [Nat.pow_succ, Nat.div_div_eq_div_mul]
theorem PI.sq (hp : IsPr p) (cf : Canon p f) (cm : Canon p m) (h0 : m ≠ []) (h : PI p f m N j O S) {O' : List Nat} (ho : O' = powL p f m (N % 2 ^ (j + 1))) : PI p f m N (j + 1) O' (remL p (mulL p S S) m) where
  eo := ho
  cs := (remL_md hp (mulL_ok S S).2 cm h0).canon
  ls := (remL_md hp (mulL_ok S S).2 cm h0).len
  es := fun hn => by
    rw [half_div] at hn
    rw [h.es (fun e => by rw [e] at hn; exact hn rfl), powL_add hp cf cm h0, ← Nat.two_mul, Nat.pow_succ, Nat.mul_comm]
omit [NeZero p] in
theorem PI.keep (h : PI p f m N j O S) {O' : List Nat} (ho : O' = powL p f m (N % 2 ^ (j + 1))) (hz : N / 2 ^ (j + 1) = 0) : PI p f m N (j + 1) O' S where
  eo := ho
  cs := h.cs
  ls := h.ls
  es := fun hn => absurd hz hn
theorem powL_canon (hp : IsPr p) (cf : Canon p f) (cm : Canon p m) (h0 : m ≠ []) (n : Nat) : Canon p (powL p f m n) ∧ (powL p f m n).length < m.length :=
  ⟨(powL_md hp cf cm h0 n).canon, (powL_md hp cf cm h0 n).len⟩
end
/-- behind the last limb's last bits nothing is left -/
theorem top_small (l : List Nat) (h : ∀ i, nth l i < 4294967296) (i k : Nat) (hi : i + 1 = l.length) (hk : nth l i / 2 ^ k ≤ 1) : valN l / 2 ^ (32 * i + k + 1) = 0 := by
  have h1 := valN_take l h i
  have h2 := valN_lt l h
  have e : 4294967296 ^ i = 2 ^ (32 * i) := by rw [Nat.pow_mul]
  have h3 : valN l / 4294967296 ^ i < 4294967296 := by
    rw [Nat.div_lt_iff_lt_mul (Nat.pow_pos (by omega))]
    rw [← hi, Nat.pow_succ] at h2
    rw [Nat.mul_comm]; exact h2
  rw [Nat.mod_eq_of_lt h3, e] at h1
  rw [half_div, Nat.pow_add, ← Nat.div_div_eq_div_mul, ← h1]
  exact Nat.div_eq_of_lt (Nat.lt_succ_of_le hk)
theorem done_all (l : List Nat) (h : ∀ i, nth l i < 4294967296) : valN l % 2 ^ (32 * l.length) = valN l := by
  refine Nat.mod_eq_of_lt ?_
  have := valN_lt l h
  have e : 4294967296 ^ l.length = 2 ^ (32 * l.length) := by rw [Nat.pow_mul]
  omega
theorem and_one_u32 (m : Nat) (h : m < 4294967296) : bits BinOp.and IntKind.u32 (m : Int) 1 = ((m % 2 : Nat) : Int) := by
  have h1 := Go.Proofs.bits_and_u32_nat m 1 h (by omega)
  rw [Nat.and_one_is_mod] at h1
  exact h1
theorem bit_is32 (n k : Nat) (h : n < 4294967296) : bits BinOp.and IntKind.u32 ((n : Int) / 2 ^ k) 1 = ((n / 2 ^ k % 2 : Nat) : Int) := by
  have h1 : n / 2 ^ k ≤ n := Nat.div_le_self _ _
  have e : (n : Int) / 2 ^ k = ((n / 2 ^ k : Nat) : Int) := by simp
  rw [e, and_one_u32 _ (by omega)]
theorem bit_yes32 (n k : Nat) (h : n < 4294967296) (hb : n / 2 ^ k % 2 = 1) : (bits BinOp.and IntKind.u32 ((n : Int) / 2 ^ k) 1 == 1) = true := by
  rw [bit_is32 n k h, hb]; rfl
theorem bit_no32 (n k : Nat) (h : n < 4294967296) (hb : ¬ n / 2 ^ k % 2 = 1) : (bits BinOp.and IntKind.u32 ((n : Int) / 2 ^ k) 1 == 1) = false := by
  rw [bit_is32 n k h, show n / 2 ^ k % 2 = 0 by omega]; rfl
theorem PW.start {w W : World} {L : List (Array Value)} {p b c r : Nat} {T U : TypeId} {O S : List Nat} (bx : Boxes w W L) (hb : w.heap.size + L.length ≤ b) (hc : w.heap.size + L.length ≤ c) (ne : b ≠ c)
    (ob : W.heap[b]? = some (.cells #[.int .u32 0, .slice none 0 0] T)) (oc : W.heap[c]? = some (.cells #[.int .u32 0, .slice none 0 0] U)) (hr : r < w.heap.size + L.length)
    {a : Option Addr} {n cap : Nat} {a' : Option Addr} {n' cap' : Nat} (sO : Sl W a n cap O) (sS : Sl W a' n' cap' S) (cO : Canon p O) (cS : Canon p S) (pO : Off a n r ∧ Prov w [] a n) (pS : Off a' n' r ∧ Prov w [] a' n') :
    PW w ((((W.setCell ⟨b, 0, none⟩ (.int .u32 (p : Int))).setCell ⟨b, 1, none⟩ (.slice a n cap)).setCell ⟨c, 0, none⟩ (.int .u32 (p : Int))).setCell ⟨c, 1, none⟩ (.slice a' n' cap')) L p b c [b, c, r] O S := by
  have o1 := off_new ob sO cO
  have o2 := off_new oc sO cO
  have o3 := off_new ob sS cS
  have o4 := off_new oc sS cS
  have xb := box_of_obj ob
  have xc := box_of_obj oc
  have two : ∀ {P : Nat → Prop}, P b → P c → P r → ∀ x ∈ [b, c, r], P x := fun h1 h2 h3 x hx => by
    rcases List.mem_cons.1 hx with e | hx
    · rw [e]; exact h1
    · rcases List.mem_cons.1 hx with e | hx
      · rw [e]; exact h2
      · rw [List.mem_singleton.1 hx]; exact h3
  have hsz := bx.size
  refine ⟨(bx.set2 hb _ _).set2 hc _ _, hb, hc, ne, ?_, ⟨a, n, cap, (xb.put2 _ _).other2 ne _ _, (sO.set2 o1 _ _).set2 o2 _ _, two o1 o2 pO.1, pO.2⟩, ⟨a', n', cap', (xc.other2 (fun e => ne e.symm) _ _).put2 _ _, (sS.set2 o3 _ _).set2 o4 _ _, two o3 o4 pS.1, pS.2⟩⟩
  rw [size_set2, size_set2]
  exact two (P := fun x => x < W.heap.size) xb.lt xc.lt (by omega)
end Alg
end
