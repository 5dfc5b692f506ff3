/- mod, by the program and by the reference; the sign of a whole number; the polynomial 1; what the rounds of a power keep. -/
import Derived.Test.YtcefhnmhcapccaaDoorA16
import Derived.Test.YtcefhnmhcapccaaDoorW27
import Derived.Test.YtcefhnmhcapccaaDoorW17
import Derived.Test.YtcefhnmhcapccaaDoorH5
open Alg Go Go.RowKit
namespace Alg
theorem Sl.set2 {w : World} {a : Option Addr} {n cap : Nat} {l : List Nat} (h : Sl w a n cap l) {b : Nat} (ho : Off a n b) (u v : Value) : Sl ((w.setCell ⟨b, 0, none⟩ u).setCell ⟨b, 1, none⟩ v) a n cap l := (h.setCell ho u).setCell ho v
theorem Boxes.set2 {w W : World} {L : List (Array Value)} (h : Boxes w W L) {b : Nat} (hb : w.heap.size + L.length ≤ b) (u v : Value) : Boxes w ((W.setCell ⟨b, 0, none⟩ u).setCell ⟨b, 1, none⟩ v) L := (h.setCell hb u).setCell hb v
theorem Box.other2 {W : World} {b : Nat} {cs : Array Value} (h : Box W b cs) {g : Nat} (hne : b ≠ g) (u v : Value) : Box ((W.setCell ⟨g, 0, none⟩ u).setCell ⟨g, 1, none⟩ v) b cs := (h.other 0 hne u).other 1 hne v
theorem Below.set2 {n : Nat} {w W : World} (h : Below n w W) {b : Nat} (hb : n ≤ b) (u v : Value) : Below n w ((W.setCell ⟨b, 0, none⟩ u).setCell ⟨b, 1, none⟩ v) := (h.setCell (p := ⟨b, 0, none⟩) hb u).setCell (p := ⟨b, 1, none⟩) hb v
/-- two polynomials in boxes b and c of the call's own, which lie behind the call's other variables L; their rows are new and lie in none of the blocks R -/
structure PW (w W : World) (L : List (Array Value)) (p b c : Nat) (R : List Nat) (O S : List Nat) : Prop where
  bx : Boxes w W L
  hb : w.heap.size + L.length ≤ b
  hc : w.heap.size + L.length ≤ c
  ne : b ≠ c
  lt : ∀ r ∈ R, r < W.heap.size
  one : ∃ a n cap, Box W b #[.int .u32 (p : Int), .slice a n cap] ∧ Sl W a n cap O ∧ (∀ r ∈ R, Off a n r) ∧ Prov w [] a n
  two : ∃ a n cap, Box W c #[.int .u32 (p : Int), .slice a n cap] ∧ Sl W a n cap S ∧ (∀ r ∈ R, Off a n r) ∧ Prov w [] a n
theorem PW.mono {w W W' : World} {L : List (Array Value)} {p b c : Nat} {R : List Nat} {O S : List Nat} (h : PW w W L p b c R O S) (hb : Below W.heap.size W W') : PW w W' L p b c R O S := by
  obtain ⟨a, n, cap, h1, h2, h3⟩ := h.one
  obtain ⟨a', n', cap', k1, k2, k3⟩ := h.two
  exact ⟨h.bx.mono hb, h.hb, h.hc, h.ne, fun r hr => Nat.lt_of_lt_of_le (h.lt r hr) hb.size, ⟨a, n, cap, h1.mono hb, h2.mono hb, h3⟩, ⟨a', n', cap', k1.mono hb, k2.mono hb, k3⟩⟩
theorem PW.drew {w W : World} {L : List (Array Value)} {p b c : Nat} {R : List Nat} {O S : List Nat} (h : PW w W L p b c R O S) : PW w W.drew L p b c R O S := h.mono ⟨rfl, rfl, rfl, Nat.le_refl _, fun _ _ => rfl⟩
/-- what is new behind W lies in none of the blocks -/
theorem PW.fresh {w W : World} {L : List (Array Value)} {p b c : Nat} {R : List Nat} {O S : List Nat} (h : PW w W L p b c R O S) {a : Option Addr} {n : Nat} (hp : Prov W [] a n) : (∀ r ∈ R, Off a n r) ∧ Prov w [] a n :=
  ⟨fun r hr => hp.off0 (h.lt r hr), hp.mono (by have := h.bx.size; omega)⟩
theorem size_set2 (W : World) (b : Nat) (u v : Value) : ((W.setCell ⟨b, 0, none⟩ u).setCell ⟨b, 1, none⟩ v).heap.size = W.heap.size := by
  simp only [World.setCell, Array.size_modify]
theorem PW.set1 {w W : World} {L : List (Array Value)} {p b c : Nat} {R : List Nat} {O S O' : List Nat} (h : PW w W L p b c R O S) {a : Option Addr} {n cap : Nat} (hs : Sl W a n cap O') (ho : (∀ r ∈ R, Off a n r) ∧ Prov w [] a n) (hbR : b ∈ R) :
    PW w ((W.setCell ⟨b, 0, none⟩ (.int .u32 (p : Int))).setCell ⟨b, 1, none⟩ (.slice a n cap)) L p b c R O' S := by
  obtain ⟨a', n', cap', k1, k2, k3, k4⟩ := h.two
  obtain ⟨_, _, _, h1, _, _⟩ := h.one
  exact ⟨h.bx.set2 h.hb _ _, h.hb, h.hc, h.ne, fun r hr => by rw [size_set2]; exact h.lt r hr, ⟨a, n, cap, h1.put2 _ _, hs.set2 (ho.1 b hbR) _ _, ho⟩, ⟨a', n', cap', k1.other2 (fun e => h.ne e.symm) _ _, k2.set2 (k3 b hbR) _ _, k3, k4⟩⟩
theorem PW.set2 {w W : World} {L : List (Array Value)} {p b c : Nat} {R : List Nat} {O S S' : List Nat} (h : PW w W L p b c R O S) {a : Option Addr} {n cap : Nat} (hs : Sl W a n cap S') (ho : (∀ r ∈ R, Off a n r) ∧ Prov w [] a n) (hcR : c ∈ R) :
    PW w ((W.setCell ⟨c, 0, none⟩ (.int .u32 (p : Int))).setCell ⟨c, 1, none⟩ (.slice a n cap)) L p b c R O S' := by
  obtain ⟨a', n', cap', k1, k2, k3, k4⟩ := h.one
  obtain ⟨_, _, _, h1, _, _⟩ := h.two
  exact ⟨h.bx.set2 h.hc _ _, h.hb, h.hc, h.ne, fun r hr => by rw [size_set2]; exact h.lt r hr, ⟨a', n', cap', k1.other2 h.ne _ _, k2.set2 (k3 c hcR) _ _, k3, k4⟩, ⟨a, n, cap, h1.put2 _ _, hs.set2 (ho.1 c hcR) _ _, ho⟩⟩
/-- the call hands back a polynomial and an error's number -/
def RetPE (p : Nat) (l : List Nat) (err : Int) (w : World) (e : Ending) (w' : World) : Prop :=
  ∃ a n cap, e = .returned (.tuple #[.agg #[.int .u32 (p : Nat), .slice a n cap], .int .i64 err]) ∧ Sl w' a n cap l ∧ Below w.heap.size w w' ∧ Prov w [] a n
end Alg
namespace Go.Proofs.YtcefhnmhcapccaaDoor
open Go.RowKit
set_option maxHeartbeats 600000 in
theorem ppoly_mod (p : Nat) (fa : Option Addr) (fn fcap : Nat) (fl : List Nat) (ga : Option Addr) (gn gcap : Nat) (gl : List Nat) (q : Int) (w : World) (hf : Sl w fa fn fcap fl) (hg : Sl w ga gn gcap gl)
    (hg0 : 0 < gn) (hlead : nth gl (gn - 1) ≠ 0) (hp0 : 1 < p) (hp : p < 4294967296) (hfn : fn ≤ 1099511627776) (hgn : gn ≤ 1099511627776) :
    Calls Tryd.prog 79 #[.agg #[.int .u32 (p : Int), .slice fa fn fcap], .agg #[.int .u32 q, .slice ga gn gcap]] w (RetP p (remL p fl gl) [] w) := by
  have hbx := boxes3 w #[.int .u32 (p : Int), .slice fa fn fcap] #[.int .u32 q, .slice ga gn gcap] #[.int .u32 0, .slice none 0 0] 25 25 25
  go_enter Tryd.func79, Tryd.ntmps79
  go_wp2_with fail
  generalize hW0 : (((w.alloc (.cells #[.int .u32 (p : Int), .slice fa fn fcap] 25)).alloc (.cells #[.int .u32 q, .slice ga gn gcap] 25)).alloc (.cells #[.int .u32 0, .slice none 0 0] 25)) = W0 at hbx ⊢
  clear hW0
  have hsz : w.heap.size + 3 ≤ W0.heap.size := hbx.size
  refine (ppoly_DivMod p fa fn fcap fl ga gn gcap gl q W0 (hf.mono hbx.below) (hg.mono hbx.below) hg0 hlead hp0 hp hfn hgn).mono ?_
  rintro e w1 ⟨qa, qn, qc, ra, rn, rc, rfl, hq, hr, hb1, pq, pr⟩
  have hx1 := hbx.mono hb1
  have hz := (hx1.alloc_any (.cells #[.int .u32 (p : Int), .slice qa qn qc] 25)).alloc_any (.cells #[.int .u32 (p : Int), .slice ra rn rc] 25)
  have hrz : Sl ((w1.alloc (.cells #[.int .u32 (p : Int), .slice qa qn qc] 25)).alloc (.cells #[.int .u32 (p : Int), .slice ra rn rc] 25)) ra rn rc (trim (divL p fl gl).2) := (hr.alloc _).alloc _
  have r0 := hz.cell' 2 0 _ _ rfl rfl
  have r1 := hz.cell' 2 1 _ _ rfl rfl
  have f0 := hz.frozen' 2 0 (by simp)
  have f1 := hz.frozen' 2 1 (by simp)
  have oR : Off ra rn (w.heap.size + 2) := pr.off0 (by omega)
  clear hq pq
  go_wp2
  (try simp only [Exit.inBlock, Exit.then])
  refine bodyPost_ret (v := .agg #[.int .u32 (p : Int), .slice ra rn rc]) (by simp [results, Tryd.results79, go_sem, r0, r1]) rfl ?_
  exact ⟨ra, rn, rc, rfl, hrz.set2 oR _ _, Alg.Below.set2 hz.below (by omega) _ _, pr.mono (by omega)⟩
set_option maxHeartbeats 600000 in
theorem ref_mod (p : Nat) (fa : Option Addr) (fn fcap : Nat) (fl : List Nat) (ga : Option Addr) (gn gcap : Nat) (gl : List Nat) (q : Int) (w : World) (hf : Sl w fa fn fcap fl) (hg : Sl w ga gn gcap gl)
    (hg0 : 0 < gn) (hp0 : 1 < p) (hp : p < 4294967296) (hfn : fn ≤ 1099511627776) (hgn : gn ≤ 1099511627776) :
    Calls Tryd.prog 80 #[.agg #[.int .u32 (p : Int), .slice fa fn fcap], .agg #[.int .u32 q, .slice ga gn gcap]] w (RetP p (remL p fl gl) [] w) := by
  have hbx := boxes3 w #[.int .u32 (p : Int), .slice fa fn fcap] #[.int .u32 q, .slice ga gn gcap] #[.int .u32 0, .slice none 0 0] 25 25 25
  go_enter Tryd.func80, Tryd.ntmps80
  go_wp2_with fail
  generalize hW0 : (((w.alloc (.cells #[.int .u32 (p : Int), .slice fa fn fcap] 25)).alloc (.cells #[.int .u32 q, .slice ga gn gcap] 25)).alloc (.cells #[.int .u32 0, .slice none 0 0] 25)) = W0 at hbx ⊢
  clear hW0
  have hsz : w.heap.size + 3 ≤ W0.heap.size := hbx.size
  refine (ref_DivMod p fa fn fcap fl ga gn gcap gl q W0 (hf.mono hbx.below) (hg.mono hbx.below) hg0 hp0 hp hfn hgn).mono ?_
  rintro e w1 ⟨qa, qn, qc, ra, rn, rc, rfl, hq, hr, hb1, pq, pr⟩
  have hx1 := hbx.mono hb1
  have hz := (hx1.alloc_any (.cells #[.int .u32 (p : Int), .slice qa qn qc] 25)).alloc_any (.cells #[.int .u32 (p : Int), .slice ra rn rc] 25)
  have hrz : Sl ((w1.alloc (.cells #[.int .u32 (p : Int), .slice qa qn qc] 25)).alloc (.cells #[.int .u32 (p : Int), .slice ra rn rc] 25)) ra rn rc (trim (divL p fl gl).2) := (hr.alloc _).alloc _
  have r0 := hz.cell' 2 0 _ _ rfl rfl
  have r1 := hz.cell' 2 1 _ _ rfl rfl
  have f0 := hz.frozen' 2 0 (by simp)
  have f1 := hz.frozen' 2 1 (by simp)
  have oR : Off ra rn (w.heap.size + 2) := pr.off0 (by omega)
  clear hq pq
  go_wp2
  (try simp only [Exit.inBlock, Exit.then])
  refine bodyPost_ret (v := .agg #[.int .u32 (p : Int), .slice ra rn rc]) (by simp [results, Tryd.results80, go_sem, r0, r1]) rfl ?_
  exact ⟨ra, rn, rc, rfl, hrz.set2 oR _ _, Alg.Below.set2 hz.below (by omega) _ _, pr.mono (by omega)⟩
theorem whole_Sign (neg : Bool) (a : Option Addr) (n cap : Nat) (w : World) (hn : n ≤ 9223372036854775807) :
    Calls Tryd.prog 78 #[.agg #[.bool neg, .slice a n cap]] w fun e w' => e = .returned (.int .i64 (if n = 0 then 0 else if neg then -1 else 1)) ∧ Below w.heap.size w w' := by
  have hbx := boxes1 w #[.bool neg, .slice a n cap] 50
  by_cases h0 : n = 0
  · rw [if_pos h0]
    subst h0
    go_enter Tryd.func78, Tryd.ntmps78
    go_wp2
    go_ret
    exact ⟨rfl, hbx.below⟩
  · rw [if_neg h0]
    have hq : ((n : Int) == 0) = false := by simp; omega
    cases neg with
    | true =>
      rw [if_pos rfl]
      go_enter Tryd.func78, Tryd.ntmps78
      go_wp2
      go_ret
      exact ⟨rfl, hbx.below⟩
    | false =>
      rw [if_neg (by decide)]
      go_enter Tryd.func78, Tryd.ntmps78
      go_wp2
      go_ret
      exact ⟨rfl, hbx.below⟩
theorem ref_One (p : Nat) (w : World) :
    Calls Tryd.prog 81 #[.int .u32 (p : Int)] w (RetP p [1] [] w) := by
  have hbx := boxes1 w #[.int .u32 (p : Int), .slice (some ⟨w.heap.size + 1, 0, none⟩) 1 1] 25
  have hz := hbx.alloc_any (.cells #[.int .u32 1] 22)
  have hs := sl_one1' (w.alloc (.cells #[.int .u32 (p : Int), .slice (some ⟨w.heap.size + 1, 0, none⟩) 1 1] 25)) 22 (b := w.heap.size + 1) (by rw [World.size_alloc])
  go_enter Tryd.func81, Tryd.ntmps81
  go_wp2
  (try simp only [Exit.inBlock, Exit.then])
  refine bodyPost_ret (v := .agg #[.int .u32 (p : Int), .slice (some ⟨w.heap.size + 1, 0, none⟩) 1 1]) (by simp [results, Tryd.results81, go_sem]) rfl ?_
  exact ⟨_, _, _, rfl, hs, hz.below, Or.inr (Or.inr ⟨_, _, _, rfl, by omega⟩)⟩
end Go.Proofs.YtcefhnmhcapccaaDoor
