/- Boxes that are stored anew one behind another. Contract of the reference's Gcd. -/
import Derived.Test.YtcbhoedifgghhaaDoorW27
import Derived.Test.YtcbhoedifgghhaaDoorS1
section
open Alg Go Go.RowKit
namespace Alg
/-- a polynomial that lies in block b -/
def Pv (W : World) (b p : Nat) (R : List Nat) (l : List Nat) : Prop := ∃ a n c, Box W b #[.int .u32 (p : Int), .slice a n c] ∧ Sl W a n c l ∧ Offs R a n
theorem Pv.mono {W W' : World} {b p : Nat} {R l : List Nat} (h : Pv W b p R l) (hb : Below W.heap.size W W') : Pv W' b p R l := by
  obtain ⟨a, n, c, h1, h2, h3⟩ := h
  exact ⟨a, n, c, h1.mono hb, h2.mono hb, h3⟩
abbrev set2 (W : World) (b : Nat) (v0 v1 : Value) : World := (W.setCell ⟨b, 0, none⟩ v0).setCell ⟨b, 1, none⟩ v1
theorem Pv.other {W : World} {b p : Nat} {R l : List Nat} (h : Pv W b p R l) {c : Nat} (hc : c ∈ R) (hne : b ≠ c) (v0 v1 : Value) : Pv (set2 W c v0 v1) b p R l := by
  obtain ⟨a, n, cc, h1, h2, h3⟩ := h
  exact ⟨a, n, cc, (h1.other 0 hne v0).other 1 hne v1, (h2.setCell (h3 c hc) v0).setCell (h3 c hc) v1, h3⟩
theorem Pv.put {W : World} {b p : Nat} {R l : List Nat} {u0 u1 : Value} {a : Option Addr} {n c : Nat} (h : Box W b #[u0, u1]) (s : Sl W a n c l) (o : Offs R a n) (hb : b ∈ R) : Pv (set2 W b (.int .u32 (p : Int)) (.slice a n c)) b p R l :=
  ⟨a, n, c, h.put2 _ _, (s.setCell (o b hb) _).setCell (o b hb) _, o⟩
theorem Box.two {W : World} {b : Nat} {u0 u1 : Value} (h : Box W b #[u0, u1]) :
    W.cell? ⟨b, 0, none⟩ = some u0 ∧ W.cell? ⟨b, 1, none⟩ = some u1 ∧ W.frozen? ⟨b, 0, none⟩ = false ∧ W.frozen? ⟨b, 1, none⟩ = false := ⟨h.cell 0 _ rfl, h.cell 1 _ rfl, h.frozen 0, h.frozen 1⟩
theorem Boxes.setB2 {w W : World} {L : List (Array Value)} (h : Boxes w W L) {b : Nat} (hb : w.heap.size + L.length ≤ b) (v0 v1 : Value) : Boxes w (set2 W b v0 v1) L := (h.setCell hb v0).setCell hb v1
theorem bset {W w1 : World} (h : Below W.heap.size W w1) {g i : Nat} (hg : W.heap.size ≤ g) (u : Value) : Below W.heap.size W (w1.setCell ⟨g, i, none⟩ u) := h.setCell (p := ⟨g, i, none⟩) hg u
theorem Sl.setB2 {W : World} {a : Option Addr} {n cap : Nat} {l : List Nat} (h : Sl W a n cap l) {b : Nat} (ho : Off a n b) (v0 v1 : Value) : Sl (set2 W b v0 v1) a n cap l := (h.setCell ho v0).setCell ho v1
structure St (w W : World) (L : List (Array Value)) (p : Nat) (R : List Nat) (bs : List (Nat × List Nat)) : Prop where
  boxes : Boxes w W L
  nd : (bs.map Prod.fst).Nodup
  pv : ∀ (k b : Nat) (l : List Nat), bs[k]? = some (b, l) → Pv W b p R l
theorem St.step {w W : World} {L : List (Array Value)} {p : Nat} {R : List Nat} {bs : List (Nat × List Nat)} (h : St w W L p R bs) (i j : Nat) {t s : Nat} {lt ls : List Nat}
    (hi : bs[i]? = some (t, lt)) (hj : bs[j]? = some (s, ls)) (ht : t ∈ R) (hL : w.heap.size + L.length ≤ t) :
    ∃ a n c v, W.cell? ⟨s, 0, none⟩ = some (.int .u32 (p : Int)) ∧ W.cell? ⟨s, 1, none⟩ = some (.slice a n c) ∧ W.cell? ⟨t, 0, none⟩ = some (.int .u32 (p : Int)) ∧ W.cell? ⟨t, 1, none⟩ = some v ∧
      W.frozen? ⟨t, 0, none⟩ = false ∧ W.frozen? ⟨t, 1, none⟩ = false ∧ St w ((W.setCell ⟨t, 0, none⟩ (.int .u32 (p : Int))).setCell ⟨t, 1, none⟩ (.slice a n c)) L p R (bs.set i (t, ls)) := by
  obtain ⟨a, n, c, bS, sS, oS⟩ := h.pv _ _ _ hj
  obtain ⟨a', n', c', bT, _, _⟩ := h.pv _ _ _ hi
  obtain ⟨q0, q1, _, _⟩ := bS.two
  obtain ⟨r0, r1, z0, z1⟩ := bT.two
  have hil : i < bs.length := by
    rcases Nat.lt_or_ge i bs.length with h | h
    · exact h
    · rw [List.getElem?_eq_none h] at hi; cases hi
  have hmap : (bs.set i (t, ls)).map Prod.fst = bs.map Prod.fst := by
    apply List.ext_getElem?
    intro k
    rw [List.getElem?_map, List.getElem?_map, List.getElem?_set]
    by_cases hk : i = k
    · subst hk
      rw [hi]; simp [hil]
    · simp [hk]
  refine ⟨a, n, c, _, q0, q1, r0, r1, z0, z1, h.boxes.setB2 hL _ _, by rw [hmap]; exact h.nd, ?_⟩
  intro k b l hk
  rw [List.getElem?_set] at hk
  by_cases hik : i = k
  · subst hik
    rw [if_pos rfl, if_pos hil] at hk
    obtain ⟨rfl, rfl⟩ : t = b ∧ ls = l := by simpa using hk
    exact Pv.put bT sS oS ht
  · rw [if_neg hik] at hk
    refine (h.pv _ _ _ hk).other ht ?_ _ _
    intro hbt
    apply hik
    refine (List.getElem?_inj (l := bs.map Prod.fst) (by simpa using hil) h.nd).mp ?_
    rw [List.getElem?_map, List.getElem?_map, hi, hk, hbt]
    try rfl
end Alg
end
section
open Alg Go Go.RowKit
namespace Alg
end Alg
namespace Go.Proofs.YtcbhoedifgghhaaDoor
open Go.RowKit
set_option maxHeartbeats 400000 in
theorem ref_One38 (p : Nat) (w : World) : Calls Tryd.prog 17 #[.int .u32 p] w (RetP p [1] [] w) := by
  go_enter Tryd.func17, Tryd.ntmps17
  go_wp2
  (try simp only [Exit.inBlock, Exit.then])
  refine bodyPost_ret (v := .agg #[.int .u32 (p : Int), .slice (some ⟨w.heap.size + 1, 0, none⟩) 1 1]) (by simp [results, Tryd.results17, go_sem]) rfl ?_
  exact ⟨_, _, _, rfl, sl_one1' _ _ (by rw [World.size_alloc]), by go_grown, Or.inr (Or.inr ⟨_, _, _, rfl, by omega⟩)⟩
set_option maxRecDepth 100000 in
set_option maxHeartbeats 1500000 in
theorem ref_GcdP (p : Nat) (fa : Option Addr) (fn fcap : Nat) (fl : List Nat) (ga : Option Addr) (gn gcap : Nat) (gl : List Nat) (w : World) (hf : Sl w fa fn fcap fl) (hg : Sl w ga gn gcap gl)
    (hpr : IsPr p) (hp : p < 4294967296) (hfn : fn ≤ 274877906944) (hgn : gn ≤ 274877906944) (cf : Canon p fl) (cg : Canon p gl) :
    Calls Tryd.prog 57 #[.agg #[.int .u32 (p : Int), .slice fa fn fcap], .agg #[.int .u32 (p : Int), .slice ga gn gcap]] w (RetTP p (gcdL p fl gl) w) := by
  have hp1 := hpr.1
  have hbx := (boxes4 w #[.int .u32 (p : Int), .slice fa fn fcap] #[.int .u32 (p : Int), .slice ga gn gcap] #[.int .u32 0, .slice none 0 0, .int .u32 0, .slice none 0 0, .int .u32 0, .slice none 0 0] #[.int .u32 (p : Int), .slice fa fn fcap] 25 25 37 25).alloc (by simp) #[.int .u32 (p : Int), .slice ga gn gcap] 25
  go_enter Tryd.func57, Tryd.ntmps57
  go_wp2_with fail
  generalize hW0 : (((((w.alloc (.cells #[.int .u32 (p : Int), .slice fa fn fcap] 25)).alloc (.cells #[.int .u32 (p : Int), .slice ga gn gcap] 25)).alloc (.cells #[.int .u32 0, .slice none 0 0, .int .u32 0, .slice none 0 0, .int .u32 0, .slice none 0 0] 37)).alloc (.cells #[.int .u32 (p : Int), .slice fa fn fcap] 25)).alloc (.cells #[.int .u32 (p : Int), .slice ga gn gcap] 25)) = W0 at hbx ⊢
  clear hW0
  have hsz : w.heap.size + 5 ≤ W0.heap.size := hbx.size
  refine (ref_One38 p W0).mono ?_
  rintro e w1 ⟨u0, un, uc, rfl, hu1, hb1, hpu⟩
  have hx1 := hbx.mono hb1
  have hun : un = 1 := hu1.len.symm
  subst hun
  have hsz1 : w.heap.size + 5 ≤ w1.heap.size := hx1.size
  have hs01 := hb1.size
  have hxa := hx1.alloc_any (.cells #[.int .u32 (p : Int), .slice u0 1 uc] 25)
  have d0 : (w1.alloc (.cells #[.int .u32 (p : Int), .slice u0 1 uc] 25)).cell? ⟨w.heap.size, 0, none⟩ = some (.int .u32 (p : Int)) := hxa.cell' 0 0 _ _ rfl rfl
  have hy2 := boxes4 w1 #[.int .u32 (p : Int), .slice u0 1 uc] #[.int .u32 (p : Int), .slice none 0 0] #[.int .u32 (p : Int), .slice none 0 0] #[.int .u32 (p : Int), .slice u0 1 uc] 25 25 25 25
  go_wp2
  generalize hW2 : ((((w1.alloc (.cells #[.int .u32 (p : Int), .slice u0 1 uc] 25)).alloc (.cells #[.int .u32 (p : Int), .slice none 0 0] 25)).alloc (.cells #[.int .u32 (p : Int), .slice none 0 0] 25)).alloc (.cells #[.int .u32 (p : Int), .slice u0 1 uc] 25)) = W2 at hy2 ⊢
  clear hW2 d0 hxa
  have hx2 := hx1.mono hy2.below
  have hsz2 : w1.heap.size + 4 ≤ W2.heap.size := hy2.size
  have hf2 := hf.mono hx2.below
  have hg2 := hg.mono hx2.below
  have hu2 := hu1.mono hy2.below
  have bA := hx2.box (j := 3) rfl
  have bB := hx2.box (j := 4) rfl
  have b1 := hy2.box (j := 0) rfl
  have b2 := hy2.box (j := 1) rfl
  have b3 := hy2.box (j := 2) rfl
  have b4 := hy2.box (j := 3) rfl
  have hx3 : Boxes w W2 [#[.int .u32 (p : Int), .slice fa fn fcap], #[.int .u32 (p : Int), .slice ga gn gcap], #[.int .u32 0, .slice none 0 0, .int .u32 0, .slice none 0 0, .int .u32 0, .slice none 0 0]] := hx2.less 3
  haveI hne : NeZero p := ⟨by omega⟩
  have hI0 := Alg.hid (GInv.start (p := p) hpr fl gl cf cg (fn + gn + 1) (by rw [hf.len, hg.len]; omega))
  have oF : Offs [(w.heap.size + 1 + 1 + 1), (w.heap.size + 1 + 1 + 1 + 1), w1.heap.size, (w1.heap.size + 1), (w1.heap.size + 1 + 1), (w1.heap.size + 1 + 1 + 1), (w.heap.size + 1 + 1)] fa fn := Offs.old hf (by intro r hr; simp only [List.mem_cons, List.not_mem_nil, or_false] at hr; omega)
  have oG : Offs [(w.heap.size + 1 + 1 + 1), (w.heap.size + 1 + 1 + 1 + 1), w1.heap.size, (w1.heap.size + 1), (w1.heap.size + 1 + 1), (w1.heap.size + 1 + 1 + 1), (w.heap.size + 1 + 1)] ga gn := Offs.old hg (by intro r hr; simp only [List.mem_cons, List.not_mem_nil, or_false] at hr; omega)
  have oU : Offs [(w.heap.size + 1 + 1 + 1), (w.heap.size + 1 + 1 + 1 + 1), w1.heap.size, (w1.heap.size + 1), (w1.heap.size + 1 + 1), (w1.heap.size + 1 + 1 + 1), (w.heap.size + 1 + 1)] u0 1 := by
    intro r hr
    simp only [List.mem_cons, List.not_mem_nil, or_false] at hr
    rcases Nat.lt_or_ge r W0.heap.size with h | h
    · exact hpu.off0 h
    · exact hu1.off (by omega)
  have oN : Offs [(w.heap.size + 1 + 1 + 1), (w.heap.size + 1 + 1 + 1 + 1), w1.heap.size, (w1.heap.size + 1), (w1.heap.size + 1 + 1), (w1.heap.size + 1 + 1 + 1), (w.heap.size + 1 + 1)] none 0 := fun r _ => Or.inl rfl
  go_loopw [13] (fun _ wr => ∃ X Y, GInv p fl gl (fn + gn + 1) X Y ∧ Boxes w wr [#[.int .u32 (p : Int), .slice fa fn fcap], #[.int .u32 (p : Int), .slice ga gn gcap], #[.int .u32 0, .slice none 0 0, .int .u32 0, .slice none 0 0, .int .u32 0, .slice none 0 0]] ∧ Pv wr (w.heap.size + 1 + 1 + 1) p [(w.heap.size + 1 + 1 + 1), (w.heap.size + 1 + 1 + 1 + 1), w1.heap.size, (w1.heap.size + 1), (w1.heap.size + 1 + 1), (w1.heap.size + 1 + 1 + 1), (w.heap.size + 1 + 1)] X.G ∧ Pv wr (w.heap.size + 1 + 1 + 1 + 1) p [(w.heap.size + 1 + 1 + 1), (w.heap.size + 1 + 1 + 1 + 1), w1.heap.size, (w1.heap.size + 1), (w1.heap.size + 1 + 1), (w1.heap.size + 1 + 1 + 1), (w.heap.size + 1 + 1)] Y.G ∧ Pv wr w1.heap.size p [(w.heap.size + 1 + 1 + 1), (w.heap.size + 1 + 1 + 1 + 1), w1.heap.size, (w1.heap.size + 1), (w1.heap.size + 1 + 1), (w1.heap.size + 1 + 1 + 1), (w.heap.size + 1 + 1)] X.U ∧ Pv wr (w1.heap.size + 1) p [(w.heap.size + 1 + 1 + 1), (w.heap.size + 1 + 1 + 1 + 1), w1.heap.size, (w1.heap.size + 1), (w1.heap.size + 1 + 1), (w1.heap.size + 1 + 1 + 1), (w.heap.size + 1 + 1)] X.V ∧ Pv wr (w1.heap.size + 1 + 1) p [(w.heap.size + 1 + 1 + 1), (w.heap.size + 1 + 1 + 1 + 1), w1.heap.size, (w1.heap.size + 1), (w1.heap.size + 1 + 1), (w1.heap.size + 1 + 1 + 1), (w.heap.size + 1 + 1)] Y.U ∧ Pv wr (w1.heap.size + 1 + 1 + 1) p [(w.heap.size + 1 + 1 + 1), (w.heap.size + 1 + 1 + 1 + 1), w1.heap.size, (w1.heap.size + 1), (w1.heap.size + 1 + 1), (w1.heap.size + 1 + 1 + 1), (w.heap.size + 1 + 1)] Y.V) (fun _ wr => lenAt wr (w.heap.size + 1 + 1 + 1 + 1) 1)
  case atStart => exact ⟨_, _, hI0.out, hx3, ⟨_, _, _, bA, hf2, oF⟩, ⟨_, _, _, bB, hg2, oG⟩, ⟨_, _, _, b1, hu2, oU⟩, ⟨_, _, _, b2, Sl.of_nil _ _ _ (by omega), oN⟩, ⟨_, _, _, b3, Sl.of_nil _ _ _ (by omega), oN⟩, ⟨_, _, _, b4, hu2, oU⟩⟩
  case round =>
    clear hx2 hx3 hf2 hg2 hu2 bA bB b1 b2 b3 b4 hI0 hbx hx1 hy2 oF oG oU oN
    obtain ⟨X, Y, hI, hB, hA1, hB1, hA2, hA3, hB2, hB3⟩ := hrel
    have hI := Alg.hid hI
    obtain ⟨oX, oY, gL⟩ := hI.out.ok
    obtain ⟨a1, n1, c1, bX1, sX1, oX1⟩ := hA1
    obtain ⟨b1, m1, d1, bY1, sY1, oY1⟩ := hB1
    obtain ⟨a2, n2, c2, bX2, sX2, oX2⟩ := hA2
    obtain ⟨a3, n3, c3, bX3, sX3, oX3⟩ := hA3
    obtain ⟨b2, m2, d2, bY2, sY2, oY2⟩ := hB2
    obtain ⟨b3, m3, d3, bY3, sY3, oY3⟩ := hB3
    have l1 := sX1.len
    have l2 := sX2.len
    have l3 := sX3.len
    have k1 := sY1.len
    have k2 := sY2.len
    have k3 := sY3.len
    have hlen := Alg.hid ((lenAt_eq (bY1.cell 1 _ rfl)).trans k1.symm)
    have hN : X.U.length + Y.G.length ≤ fn + gn + 1 ∧ Y.U.length + X.G.length ≤ fn + gn + 1 ∧ X.V.length + Y.G.length ≤ fn + gn + 1 ∧ Y.V.length + X.G.length ≤ fn + gn + 1 := ⟨gL.a, gL.b, gL.c, gL.d⟩
    clear gL
    have hbl : w1.heap.size + 1 + 1 + 1 < wr.heap.size := bY3.lt
    obtain ⟨x0, x1, _, _⟩ := bX1.two
    obtain ⟨y0, y1, _, _⟩ := bY1.two
    by_cases h0 : m1 = 0
    · have hstop := hI.out.stop (List.length_eq_zero_iff.1 (by omega))
      obtain ⟨eX, gX, lX⟩ := hstop
      have hres : gcdL p fl gl = gfin p X := by rw [eX]; rfl
      have HRES := Alg.hid hres
      clear hres eX
      subst h0
      have f0 : wr.cell? ⟨w.heap.size, 0, none⟩ = some (.int .u32 (p : Int)) := hB.cell' 0 0 _ _ rfl rfl
      have bR : Box wr (w.heap.size + 1 + 1) _ := hB.box (j := 2) rfl
      have oR1 : Off a1 n1 (w.heap.size + 1 + 1) := oX1 _ (by simp)
      have oR2 : Off a2 n2 (w.heap.size + 1 + 1) := oX2 _ (by simp)
      have oR3 : Off a3 n3 (w.heap.size + 1 + 1) := oX3 _ (by simp)
      obtain ⟨x2, x3, _, _⟩ := bX2.two
      obtain ⟨x4, x5, _, _⟩ := bX3.two
      clear oX oY
      by_cases hn0 : n1 = 0
      · have e9 : gfin p X = X := by unfold gfin; rw [if_pos (List.length_eq_zero_iff.1 (by omega))]
        obtain ⟨⟨q0, q1, q2, q3, q4, q5⟩, z0, z1, z2, z3, z4, z5⟩ := bR.six
        subst hn0
        go_wp2
        (try simp only [Exit.inBlock, Exit.then])
        have bR3 := bR.put6 (.int .u32 (p : Int)) (.slice a1 0 c1) (.int .u32 (p : Int)) (.slice a2 n2 c2) (.int .u32 (p : Int)) (.slice a3 n3 c3)
        obtain ⟨⟨r0, r1, r2, r3, r4, r5⟩, _⟩ := bR3.six
        refine bodyPost_ret (v := .agg (tri p a1 0 c1 a2 n2 c2 a3 n3 c3)) (by simp [results, Tryd.results57, go_sem, r0, r1, r2, r3, r4, r5]) rfl ?_
        rw [HRES.out, e9]
        exact ⟨_, _, _, _, _, _, _, _, _, rfl, (show Sl3 wr a1 0 c1 a2 n2 c2 a3 n3 c3 X from ⟨sX1, sX2, sX3⟩).set6 oR1 oR2 oR3 _ _ _ _ _ _, Alg.Below.set6 hB.below (by omega) _ _ _ _ _ _, fun hne => absurd (List.length_eq_zero_iff.1 sX1.len) hne⟩
      · have hXne : X.G ≠ [] := fun h => by rw [h] at l1; simp at l1; omega
        have hn1 : ((n1 : Int) == 0) = false := by simp; omega
        have hlead : nth X.G (n1 - 1) ≠ 0 := by
          rcases gX.cg.top with h | h
          · exact absurd h hXne
          · rw [← l1]; exact h
        have e9 : gfin p X = ⟨scL p (powM p (nth X.G (n1 - 1)) (p - 2)) X.G, scL p (powM p (nth X.G (n1 - 1)) (p - 2)) X.U, scL p (powM p (nth X.G (n1 - 1)) (p - 2)) X.V⟩ := by unfold gfin; rw [if_neg hXne, l1]
        have E9 := Alg.hid e9
        have HL := Alg.hid lX
        clear e9 hXne lX hlead
        have hlt := sX1.lt (n1 - 1)
        have hrd := sX1.rd
        rcases hrd with h1 | ⟨b, off, hab, hc⟩
        · exact absurd h1 hn0
        subst hab
        have cA := hc (n1 - 1) (by omega)
        clear hc
        have hf1 : (1 : Int) ≤ (n1 : Int) := by omega
        have i0 : (0 : Int) ≤ (n1 : Int) - 1 := by omega
        have i1 : (n1 : Int) - 1 < (n1 : Int) := by omega
        have i2 : ((n1 : Int) - 1).toNat = n1 - 1 := by omega
        have s1 : IntKind.i64.wrap ((n1 : Int) - 1) = (n1 : Int) - 1 := IntWalk.i64_in _ (by omega)
        have hinv : powM p (nth X.G (n1 - 1)) (p - 2) < p := powM_lt _ _ _ (by omega)
        go_wp2
        go_quiet ((go_at_call 76; exact Calls.quiet_of_same (ref_inverse p (nth X.G (n1 - 1)) _ (by omega) hp hlt)))
        generalize powM p (nth X.G (n1 - 1)) (p - 2) = inv at hinv E9 ⊢
        have bel := Alg.below_drewN wr nq
        generalize hwq : wr.drewN nq = w4 at bel ⊢
        clear hwq
        have bX4 := bX1.mono bel
        have bU4 := bX2.mono bel
        have bV4 := bX3.mono bel
        have bR4 := bR.mono bel
        have hB4 := hB.mono bel
        have sX4 := (show Sl3 wr (some ⟨b, off, none⟩) n1 c1 a2 n2 c2 a3 n3 c3 X from ⟨sX1, sX2, sX3⟩).mono bel
        clear x0 x1 x2 x3 x4 x5 y0 y1 cA f0 bX1 bX2 bX3 bY1 bY2 bY3 sX1 sX2 sX3 sY1 sY2 sY3 hB bR
        have K1 : Hid (∀ W, Box W (w.heap.size + 1 + 1 + 1) #[.int .u32 (p : Int), .slice (some ⟨b, off, none⟩) n1 c1] → Box W w1.heap.size #[.int .u32 (p : Int), .slice a2 n2 c2] → Box W (w1.heap.size + 1) #[.int .u32 (p : Int), .slice a3 n3 c3] → W.cell? ⟨(w.heap.size + 1 + 1 + 1), 0, none⟩ = some (.int .u32 (p : Int)) ∧ W.cell? ⟨(w.heap.size + 1 + 1 + 1), 1, none⟩ = some (.slice (some ⟨b, off, none⟩) n1 c1) ∧ W.cell? ⟨w1.heap.size, 0, none⟩ = some (.int .u32 (p : Int)) ∧ W.cell? ⟨w1.heap.size, 1, none⟩ = some (.slice a2 n2 c2) ∧ W.cell? ⟨(w1.heap.size + 1), 0, none⟩ = some (.int .u32 (p : Int)) ∧ W.cell? ⟨(w1.heap.size + 1), 1, none⟩ = some (.slice a3 n3 c3)) := fun W h1 h2 h3 => ⟨h1.cell 0 _ rfl, h1.cell 1 _ rfl, h2.cell 0 _ rfl, h2.cell 1 _ rfl, h3.cell 0 _ rfl, h3.cell 1 _ rfl⟩
        have hz4 := bel.size
        have lU := HL.out.b
        have lU1 := HL.out.a
        have lU2 := HL.out.c
        have lU3 := HL.out.d
        go_wp2
        refine wp_region_noPanic ?_
        refine wp_region_held2 10 [(1, 0), (1, 1), (1, 3), (1, 4), (1, 6), (1, 7), (0, 2), (0, 5), (0, 8), (2, 9), (3, 10)] (fun W => W.cell? ⟨(w.heap.size + 1 + 1 + 1), 0, none⟩ = some (.int .u32 (p : Int)) ∧ W.cell? ⟨(w.heap.size + 1 + 1 + 1), 1, none⟩ = some (.slice (some ⟨b, off, none⟩) n1 c1) ∧ W.cell? ⟨w1.heap.size, 0, none⟩ = some (.int .u32 (p : Int)) ∧ W.cell? ⟨w1.heap.size, 1, none⟩ = some (.slice a2 n2 c2) ∧ W.cell? ⟨(w1.heap.size + 1), 0, none⟩ = some (.int .u32 (p : Int)) ∧ W.cell? ⟨(w1.heap.size + 1), 1, none⟩ = some (.slice a3 n3 c3)) (fun _ => True) (by kernel_rfl) (by kernel_rfl) (fun _ _ _ _ _ h => h) (fun _ _ => trivial) (K1.out _ bX4.drew bU4.drew bV4.drew) (fun _ => ?_)
        simp only [pick2, List.getElem?_cons_succ, List.getElem?_cons_zero]
        iterate 6
          (refine held2_early (v := ?_) (by rfl) ?_ ?_
           rotate_left
           · intro W hSw; (try dsimp only at hSw); go_simp; (try with_reducible rfl))
          try simp only [Act.put, List.setIfInBounds_toArray, List.set_cons_zero, List.set_cons_succ]
        have bX5 := bX4.drew
        have bU5 := bU4.drew
        have bV5 := bV4.drew
        have bR5 := bR4.drew
        have hB5 := hB4.drew
        have sX5 := sX4.mono (bdrew (Below.refl _ w4))
        refine held2_loud (fun K hK => ?_)
        go_simp
        refine (ref_ScaleL p inv (some ⟨b, off, none⟩) n1 c1 X.G w4.drew sX5.g (by omega) hp (by omega) (by omega)).mono ?_
        rintro e w6 ⟨u6, v6, cc6, rfl, hs6, hb6, hp6⟩
        have bX6 := bX5.mono hb6
        have bU6 := bU5.mono hb6
        have bV6 := bV5.mono hb6
        have bR6 := bR5.mono hb6
        have sX6 := sX5.mono hb6
        have hB6 := hB5.mono hb6
        refine hK.out _ _ (K1.out _ bX6 bU6 bV6) (fun _ => ?_)
        clear hK K
        try simp only [Act.put, List.setIfInBounds_toArray, List.set_cons_zero, List.set_cons_succ]
        refine held2_loud (fun K hK => ?_)
        go_simp
        refine (ref_ScaleL p inv a2 n2 c2 X.U w6 sX6.u (by omega) hp (by omega) (by omega)).mono ?_
        rintro e w7 ⟨u7, v7, cc7, rfl, hs7, hb7, hp7⟩
        have bX7 := bX6.mono hb7
        have bU7 := bU6.mono hb7
        have bV7 := bV6.mono hb7
        have bR7 := bR6.mono hb7
        have sX7 := sX6.mono hb7
        have hB7 := hB6.mono hb7
        refine hK.out _ _ (K1.out _ bX7 bU7 bV7) (fun _ => ?_)
        clear hK K
        try simp only [Act.put, List.setIfInBounds_toArray, List.set_cons_zero, List.set_cons_succ]
        refine held2_loud (fun K hK => ?_)
        go_simp
        refine (ref_ScaleL p inv a3 n3 c3 X.V w7 sX7.v (by omega) hp (by omega) (by omega)).mono ?_
        rintro e w8 ⟨u8, v8, cc8, rfl, hs8, hb8, hp8⟩
        have bX8 := bX7.mono hb8
        have bU8 := bU7.mono hb8
        have bV8 := bV7.mono hb8
        have bR8 := bR7.mono hb8
        have sX8 := sX7.mono hb8
        have hB8 := hB7.mono hb8
        refine hK.out _ _ (K1.out _ bX8 bU8 bV8) (fun _ => ?_)
        clear hK K
        try simp only [Act.put, List.setIfInBounds_toArray, List.set_cons_zero, List.set_cons_succ]
        refine held2_quiet (v := ?_) (by rfl) ?_ ?_
        rotate_left
        · intro W hSw; (try dsimp only at hSw); go_simp; (try with_reducible rfl)
        try simp only [Act.put, List.setIfInBounds_toArray, List.set_cons_zero, List.set_cons_succ]
        obtain ⟨⟨q0, q1, q2, q3, q4, q5⟩, z0, z1, z2, z3, z4, z5⟩ := bR8.six
        refine held2_store (fun K hK => ?_)
        go_simp
        refine hK.out _ _ trivial (fun _ => ?_)
        clear hK K
        try simp only [Act.put, List.setIfInBounds_toArray, List.set_cons_zero, List.set_cons_succ]
        refine held2_nil ?_
        refine NoPanic.normal ?_
        have y6 : w4.heap.size ≤ w6.heap.size := hb6.size
        have y7 := hb7.size
        have y8 := hb8.size
        have oS1 : Off u6 v6 (w.heap.size + 1 + 1) := hp6.off0 (by show _ < w4.heap.size; omega)
        have oS2 : Off u7 v7 (w.heap.size + 1 + 1) := hp7.off0 (by omega)
        have oS3 : Off u8 v8 (w.heap.size + 1 + 1) := hp8.off0 (by omega)
        go_wp2
        (try simp only [Exit.inBlock, Exit.then])
        have bR9 := bR8.put6 (.int .u32 (p : Int)) (.slice u6 v6 cc6) (.int .u32 (p : Int)) (.slice u7 v7 cc7) (.int .u32 (p : Int)) (.slice u8 v8 cc8)
        obtain ⟨⟨r0, r1, r2, r3, r4, r5⟩, _⟩ := bR9.six
        refine bodyPost_ret (v := .agg (tri p u6 v6 cc6 u7 v7 cc7 u8 v8 cc8)) (by simp [results, Tryd.results57, go_sem, r0, r1, r2, r3, r4, r5]) rfl ?_
        rw [HRES.out, E9.out]
        have sF : Sl3 w8 u6 v6 cc6 u7 v7 cc7 u8 v8 cc8 ⟨scL p inv X.G, scL p inv X.U, scL p inv X.V⟩ := ⟨(hs6.mono hb7).mono hb8, hs7.mono hb8, hs8⟩
        exact ⟨_, _, _, _, _, _, _, _, _, rfl, sF.set6 oS1 oS2 oS3 _ _ _ _ _ _, Alg.Below.set6 hB8.below (by omega) _ _ _ _ _ _, fun _ => ⟨hp6.mono (by (try show _ ≤ w4.heap.size); omega), hp7.mono (by omega), hp8.mono (by omega)⟩⟩
    · have hyne : Y.G ≠ [] := fun h => by rw [h] at k1; simp at k1; omega
      have hm1 : (0 : Int) < (m1 : Int) := by omega
      have hlead : nth Y.G (m1 - 1) ≠ 0 := by
        rcases oY.cg.top with h | h
        · exact absurd h hyne
        · rw [← k1]; exact h
      have HS := Alg.hid (hI.out.step hpr hyne)
      have HQ := Alg.hid (divQ_len p X.G Y.G)
      have HR := Alg.hid (divR_len p X.G Y.G)
      go_wp2_with fail
      refine (ref_DivMod p a1 n1 c1 X.G b1 m1 d1 Y.G p wr sX1 sY1 (by omega) (by omega) hp (by omega) (by omega)).mono ?_
      rintro e w2 ⟨qa, qn, qc, ra, rn, rc, rfl, hq2, hr2, hb2, hpq, hpr2⟩
      have hy3 := boxes2 w2 #[.int .u32 (p : Int), .slice qa qn qc] #[.int .u32 (p : Int), .slice ra rn rc] 25 25
      have lq := hq2.len
      have lr := hr2.len
      have lq2 := HQ.out
      have lr2 := HR.out
      go_wp2
      generalize hW3 : ((w2.alloc (.cells #[.int .u32 (p : Int), .slice qa qn qc] 25)).alloc (.cells #[.int .u32 (p : Int), .slice ra rn rc] 25)) = w3 at hy3 ⊢
      clear hW3
      have hb23 := hb2.size
      have bel3 := bl hb2 hy3.below hb23
      have hsz3 : w2.heap.size + 2 ≤ w3.heap.size := hy3.size
      have hRR : ∀ r, r ∈ [(w.heap.size + 1 + 1 + 1), (w.heap.size + 1 + 1 + 1 + 1), w1.heap.size, (w1.heap.size + 1), (w1.heap.size + 1 + 1), (w1.heap.size + 1 + 1 + 1), (w.heap.size + 1 + 1)] → r < w2.heap.size := by
        intro r hr
        simp only [List.mem_cons, List.not_mem_nil, or_false] at hr
        omega
      obtain ⟨RR, hRRe⟩ : ∃ RR, [(w.heap.size + 1 + 1 + 1), (w.heap.size + 1 + 1 + 1 + 1), w1.heap.size, (w1.heap.size + 1), (w1.heap.size + 1 + 1), (w1.heap.size + 1 + 1 + 1), (w.heap.size + 1 + 1)] = RR := ⟨_, rfl⟩
      rw [hRRe] at hRR
      have HRR := Alg.hid hRR
      have HRE := Alg.hid hRRe
      clear hRR hRRe
      have HM1 := Alg.hid (mulL_len2 p (trim (divL p X.G Y.G).1) Y.U)
      have HM2 := Alg.hid (mulL_len2 p (trim (divL p X.G Y.G).1) Y.V)
      have HC1 := Alg.hid (mulL_ok (p := p) (trim (divL p X.G Y.G).1) Y.U).2
      have HC2 := Alg.hid (mulL_ok (p := p) (trim (divL p X.G Y.G).1) Y.V).2
      have HQC := Alg.hid (divL_ok hpr X.G Y.G oX.cg oY.cg hyne).2.1
      have HYU := Alg.hid oY.cu
      have HYV := Alg.hid oY.cv
      have bxp := bX2.mono bel3
      have byp := bY2.mono bel3
      have bqp := hy3.box (j := 0) rfl
      have hq3 := hq2.mono hy3.below
      have sxp := sX2.mono bel3
      have syp := sY2.mono bel3
      have pK : Hid (∀ W, Below w3.heap.size w3 W → W.cell? ⟨w1.heap.size, 0, none⟩ = some (.int .u32 (p : Int)) ∧ W.cell? ⟨w1.heap.size, 1, none⟩ = some (.slice a2 n2 c2) ∧ W.cell? ⟨(w1.heap.size + 1 + 1), 0, none⟩ = some (.int .u32 (p : Int)) ∧ W.cell? ⟨(w1.heap.size + 1 + 1), 1, none⟩ = some (.slice b2 m2 d2) ∧ W.cell? ⟨w2.heap.size, 0, none⟩ = some (.int .u32 (p : Int)) ∧ W.cell? ⟨w2.heap.size, 1, none⟩ = some (.slice qa qn qc) ∧ Below w3.heap.size w3 W) := fun W h => ⟨(h.cell (p := ⟨w1.heap.size, 0, none⟩) bxp.lt).trans (bxp.cell 0 _ rfl), (h.cell (p := ⟨w1.heap.size, 1, none⟩) bxp.lt).trans (bxp.cell 1 _ rfl), (h.cell (p := ⟨(w1.heap.size + 1 + 1), 0, none⟩) byp.lt).trans (byp.cell 0 _ rfl), (h.cell (p := ⟨(w1.heap.size + 1 + 1), 1, none⟩) byp.lt).trans (byp.cell 1 _ rfl), (h.cell (p := ⟨w2.heap.size, 0, none⟩) bqp.lt).trans (bqp.cell 0 _ rfl), (h.cell (p := ⟨w2.heap.size, 1, none⟩) bqp.lt).trans (bqp.cell 1 _ rfl), h⟩
      go_cut [14] from 27 to 53 (fun u W => ∃ bu ua un uc, u = .pointer (some ⟨bu, 0, none⟩) ∧ w3.heap.size ≤ bu ∧ Below w3.heap.size w3 W ∧ Box W bu #[.int .u32 (p : Int), .slice ua un uc] ∧ Sl W ua un uc (gstep p X Y).U ∧ Offs RR ua un)
      case first =>
        go_region_held3 (fun W => W.cell? ⟨w1.heap.size, 0, none⟩ = some (.int .u32 (p : Int)) ∧ W.cell? ⟨w1.heap.size, 1, none⟩ = some (.slice a2 n2 c2) ∧ W.cell? ⟨(w1.heap.size + 1 + 1), 0, none⟩ = some (.int .u32 (p : Int)) ∧ W.cell? ⟨(w1.heap.size + 1 + 1), 1, none⟩ = some (.slice b2 m2 d2) ∧ W.cell? ⟨w2.heap.size, 0, none⟩ = some (.int .u32 (p : Int)) ∧ W.cell? ⟨w2.heap.size, 1, none⟩ = some (.slice qa qn qc) ∧ Below w3.heap.size w3 W)
          (first | (with_reducible refine pK.out _ ?_; (repeat with_reducible (first | assumption | (exact Below.refl _ _) | (refine Alg.bdrew ?_) | (refine Alg.balloc ?_ _) | (refine Alg.bset ?_ (by omega) _))); done) | fail)
          (first
            | (go_at_call 47; (with_reducible refine (ref_Mul p qa qn qc (trim (divL p X.G Y.G).1) b2 m2 d2 Y.U p _ (by (repeat with_reducible (first | assumption | (refine Sl.drew ?_) | (refine Sl.alloc ?_ _))); first | done | fail) (by (repeat with_reducible (first | assumption | (refine Sl.drew ?_) | (refine Sl.alloc ?_ _))); first | done | fail) (by omega) hp (by omega) (by omega) (nth_lt HQC.out) (nth_lt HYU.out)).mono ?_); rintro e w4 ⟨u4, v4, cc4, rfl, hs4, hb4, hp4⟩; have hB4 : Below w3.heap.size w3 w4 := (by (repeat with_reducible (first | (exact Below.refl _ _) | (refine Alg.bdrew ?_) | (refine Alg.balloc ?_ _) | (refine Alg.btrans ?_ hb4))); first | done | fail); have lu4 := hs4.len; have lm4 := HM1.out; have hv4 : v4 ≤ 1099511627776 := (by rcases lm4 with h | h; (omega); (rw [h] at lu4; simp at lu4; omega)); have hz4 := hB4.size; have hzz4 := hb4.size; (try rw [World.size_drew] at hzz4); (repeat rw [World.size_alloc] at hzz4))
            | (go_at_call 46; (with_reducible refine (ref_Sub p a2 n2 c2 X.U u4 v4 cc4 (mulL p (trim (divL p X.G Y.G).1) Y.U) _ (by (repeat with_reducible (first | assumption | (refine Sl.drew ?_) | (refine Sl.alloc ?_ _) | (refine Sl.mono ?_ hb4))); first | done | fail) (by (repeat with_reducible (first | assumption | (refine Sl.drew ?_) | (refine Sl.alloc ?_ _) | (refine Sl.mono ?_ hb4))); first | done | fail) (by omega) hp (by omega) (by omega)).mono ?_); rintro e w5 ⟨u5, v5, cc5, rfl, hs5, hb5, hp5⟩; have hB5 : Below w3.heap.size w3 w5 := (by (repeat with_reducible (first | (exact Below.refl _ _) | (refine Alg.bdrew ?_) | (refine Alg.balloc ?_ _) | (refine Alg.btrans ?_ hb5) | (refine Alg.btrans ?_ hb4))); first | done | fail); have hz5 : w4.heap.size ≤ w5.heap.size := (by have := hb5.size; (repeat rw [World.size_alloc] at this); omega); have hX2 : Box w5 (w3.heap.size) #[.int .u32 0, .slice none 0 0] := (by (repeat with_reducible (first | (exact Box.new' _ _ _ (by first | rfl | exact (World.size_alloc _ _).symm)) | (refine Box.drew ?_) | (refine Box.alloc ?_ _) | (refine Box.mono ?_ hb5) | (refine Box.mono ?_ hb4))); first | done | fail); obtain ⟨q0, q1, z0, z1⟩ := hX2.two)
            | (go_at_call 46; (with_reducible refine (ref_Sub p a2 n2 c2 X.U u4 v4 cc4 (mulL p (trim (divL p X.G Y.G).1) Y.U) _ (by (repeat with_reducible (first | assumption | (refine Sl.drew ?_) | (refine Sl.alloc ?_ _) | (refine Sl.mono ?_ hb4))); first | done | fail) (by (repeat with_reducible (first | assumption | (refine Sl.drew ?_) | (refine Sl.alloc ?_ _) | (refine Sl.mono ?_ hb4))); first | done | fail) (by omega) hp (by omega) (by omega)).mono ?_); rintro e w5 ⟨u5, v5, cc5, rfl, hs5, hb5, hp5⟩; have hB5 : Below w3.heap.size w3 w5 := (by (repeat with_reducible (first | (exact Below.refl _ _) | (refine Alg.bdrew ?_) | (refine Alg.balloc ?_ _) | (refine Alg.btrans ?_ hb5) | (refine Alg.btrans ?_ hb4))); first | done | fail); have hz5 : w4.heap.size ≤ w5.heap.size := (by have := hb5.size; (repeat rw [World.size_alloc] at this); omega); have hX2 : Box w5 (w4.heap.size) #[.int .u32 0, .slice none 0 0] := (by (repeat with_reducible (first | (exact Box.new' _ _ _ (by first | rfl | exact (World.size_alloc _ _).symm)) | (refine Box.drew ?_) | (refine Box.alloc ?_ _) | (refine Box.mono ?_ hb5) | (refine Box.mono ?_ hb4))); first | done | fail); obtain ⟨q0, q1, z0, z1⟩ := hX2.two)
            | (go_at_call 46; (with_reducible refine (ref_Sub p a2 n2 c2 X.U u4 v4 cc4 (mulL p (trim (divL p X.G Y.G).1) Y.U) _ (by (repeat with_reducible (first | assumption | (refine Sl.drew ?_) | (refine Sl.alloc ?_ _) | (refine Sl.mono ?_ hb4))); first | done | fail) (by (repeat with_reducible (first | assumption | (refine Sl.drew ?_) | (refine Sl.alloc ?_ _) | (refine Sl.mono ?_ hb4))); first | done | fail) (by omega) hp (by omega) (by omega)).mono ?_); rintro e w5 ⟨u5, v5, cc5, rfl, hs5, hb5, hp5⟩; have hB5 : Below w3.heap.size w3 w5 := (by (repeat with_reducible (first | (exact Below.refl _ _) | (refine Alg.bdrew ?_) | (refine Alg.balloc ?_ _) | (refine Alg.btrans ?_ hb5) | (refine Alg.btrans ?_ hb4))); first | done | fail); have hz5 : w4.heap.size ≤ w5.heap.size := (by have := hb5.size; (repeat rw [World.size_alloc] at this); omega); have hNo : True := trivial)
            | fail)
        all_goals go_wp2
        all_goals go_meet
        all_goals
          have eS : subL p X.U (mulL p (trim (divL p X.G Y.G).1) Y.U) = (gstep p X Y).U := (subL_eq hp1 HC1.out).symm
          rw [eS] at hs5
          have oU : Offs RR u5 v5 := Offs.fresh hp5 (by intro r hr; have := HRR.out r hr; (repeat rw [World.size_alloc]); omega)
          try
            (have _h := hNo
             exact ⟨_, _, _, _, rfl, by omega, balloc hB5 _, Box.new' _ _ _ rfl, hs5.alloc _, oU⟩)
        all_goals
          refine ⟨_, _, _, _, rfl, by omega, bset (bset hB5 ?_ _) ?_ _, hX2.put2 _ _, (hs5.setCell ?_ _).setCell ?_ _, oU⟩
          all_goals first
            | omega
            | exact hp5.off0 (by (repeat rw [World.size_alloc]); omega)
      case rest =>
        obtain ⟨bu, ua, un, uc', rfl, hbu, bel4, bU, sU, oU⟩ := hcut
        have hsz4 := bel4.size
        have bxq := (bX3.mono bel3).mono bel4
        have byq := (bY3.mono bel3).mono bel4
        have bqq := bqp.mono bel4
        have hq4 := hq3.mono bel4
        have sxq := (sX3.mono bel3).mono bel4
        have syq := (sY3.mono bel3).mono bel4
        have hbul := bU.lt
        clear bxp byp hq3 sxp syp
        go_wp2
        obtain ⟨w6, hw6⟩ : ∃ w6, wc = w6 := ⟨_, rfl⟩
        subst hw6
        have qK : Hid (∀ W, Below wc.heap.size wc W → W.cell? ⟨(w1.heap.size + 1), 0, none⟩ = some (.int .u32 (p : Int)) ∧ W.cell? ⟨(w1.heap.size + 1), 1, none⟩ = some (.slice a3 n3 c3) ∧ W.cell? ⟨(w1.heap.size + 1 + 1 + 1), 0, none⟩ = some (.int .u32 (p : Int)) ∧ W.cell? ⟨(w1.heap.size + 1 + 1 + 1), 1, none⟩ = some (.slice b3 m3 d3) ∧ W.cell? ⟨w2.heap.size, 0, none⟩ = some (.int .u32 (p : Int)) ∧ W.cell? ⟨w2.heap.size, 1, none⟩ = some (.slice qa qn qc) ∧ Below wc.heap.size wc W) := fun W h => ⟨(h.cell (p := ⟨(w1.heap.size + 1), 0, none⟩) bxq.lt).trans (bxq.cell 0 _ rfl), (h.cell (p := ⟨(w1.heap.size + 1), 1, none⟩) bxq.lt).trans (bxq.cell 1 _ rfl), (h.cell (p := ⟨(w1.heap.size + 1 + 1 + 1), 0, none⟩) byq.lt).trans (byq.cell 0 _ rfl), (h.cell (p := ⟨(w1.heap.size + 1 + 1 + 1), 1, none⟩) byq.lt).trans (byq.cell 1 _ rfl), (h.cell (p := ⟨w2.heap.size, 0, none⟩) bqq.lt).trans (bqq.cell 0 _ rfl), (h.cell (p := ⟨w2.heap.size, 1, none⟩) bqq.lt).trans (bqq.cell 1 _ rfl), h⟩
        go_cut [15] from 27 to 53 (fun u W => ∃ bu ua un uc, u = .pointer (some ⟨bu, 0, none⟩) ∧ wc.heap.size ≤ bu ∧ Below wc.heap.size wc W ∧ Box W bu #[.int .u32 (p : Int), .slice ua un uc] ∧ Sl W ua un uc (gstep p X Y).V ∧ Offs RR ua un)
        case first =>
          go_region_held3 (fun W => W.cell? ⟨(w1.heap.size + 1), 0, none⟩ = some (.int .u32 (p : Int)) ∧ W.cell? ⟨(w1.heap.size + 1), 1, none⟩ = some (.slice a3 n3 c3) ∧ W.cell? ⟨(w1.heap.size + 1 + 1 + 1), 0, none⟩ = some (.int .u32 (p : Int)) ∧ W.cell? ⟨(w1.heap.size + 1 + 1 + 1), 1, none⟩ = some (.slice b3 m3 d3) ∧ W.cell? ⟨w2.heap.size, 0, none⟩ = some (.int .u32 (p : Int)) ∧ W.cell? ⟨w2.heap.size, 1, none⟩ = some (.slice qa qn qc) ∧ Below wc.heap.size wc W)
            (first | (with_reducible refine qK.out _ ?_; (repeat with_reducible (first | assumption | (exact Below.refl _ _) | (refine Alg.bdrew ?_) | (refine Alg.balloc ?_ _) | (refine Alg.bset ?_ (by omega) _))); done) | fail)
            (first
              | (go_at_call 47; (with_reducible refine (ref_Mul p qa qn qc (trim (divL p X.G Y.G).1) b3 m3 d3 Y.V p _ (by (repeat with_reducible (first | assumption | (refine Sl.drew ?_) | (refine Sl.alloc ?_ _))); first | done | fail) (by (repeat with_reducible (first | assumption | (refine Sl.drew ?_) | (refine Sl.alloc ?_ _))); first | done | fail) (by omega) hp (by omega) (by omega) (nth_lt HQC.out) (nth_lt HYV.out)).mono ?_); rintro e w7 ⟨u7, v7, cc7, rfl, hs7, hb7, hp7⟩; have hB7 : Below wc.heap.size wc w7 := (by (repeat with_reducible (first | (exact Below.refl _ _) | (refine Alg.bdrew ?_) | (refine Alg.balloc ?_ _) | (refine Alg.btrans ?_ hb7))); first | done | fail); have lu7 := hs7.len; have lm7 := HM2.out; have hv7 : v7 ≤ 1099511627776 := (by rcases lm7 with h | h; (omega); (rw [h] at lu7; simp at lu7; omega)); have hz7 := hB7.size; have hzz7 := hb7.size; (try rw [World.size_drew] at hzz7); (repeat rw [World.size_alloc] at hzz7))
              | (go_at_call 46; (with_reducible refine (ref_Sub p a3 n3 c3 X.V u7 v7 cc7 (mulL p (trim (divL p X.G Y.G).1) Y.V) _ (by (repeat with_reducible (first | assumption | (refine Sl.drew ?_) | (refine Sl.alloc ?_ _) | (refine Sl.mono ?_ hb7))); first | done | fail) (by (repeat with_reducible (first | assumption | (refine Sl.drew ?_) | (refine Sl.alloc ?_ _) | (refine Sl.mono ?_ hb7))); first | done | fail) (by omega) hp (by omega) (by omega)).mono ?_); rintro e w8 ⟨u8, v8, cc8, rfl, hs8, hb8, hp8⟩; have hB8 : Below wc.heap.size wc w8 := (by (repeat with_reducible (first | (exact Below.refl _ _) | (refine Alg.bdrew ?_) | (refine Alg.balloc ?_ _) | (refine Alg.btrans ?_ hb8) | (refine Alg.btrans ?_ hb7))); first | done | fail); have hz8 : w7.heap.size ≤ w8.heap.size := (by have := hb8.size; (repeat rw [World.size_alloc] at this); omega); have hX2 : Box w8 (wc.heap.size) #[.int .u32 0, .slice none 0 0] := (by (repeat with_reducible (first | (exact Box.new' _ _ _ (by first | rfl | exact (World.size_alloc _ _).symm)) | (refine Box.drew ?_) | (refine Box.alloc ?_ _) | (refine Box.mono ?_ hb8) | (refine Box.mono ?_ hb7))); first | done | fail); obtain ⟨q0, q1, z0, z1⟩ := hX2.two)
              | (go_at_call 46; (with_reducible refine (ref_Sub p a3 n3 c3 X.V u7 v7 cc7 (mulL p (trim (divL p X.G Y.G).1) Y.V) _ (by (repeat with_reducible (first | assumption | (refine Sl.drew ?_) | (refine Sl.alloc ?_ _) | (refine Sl.mono ?_ hb7))); first | done | fail) (by (repeat with_reducible (first | assumption | (refine Sl.drew ?_) | (refine Sl.alloc ?_ _) | (refine Sl.mono ?_ hb7))); first | done | fail) (by omega) hp (by omega) (by omega)).mono ?_); rintro e w8 ⟨u8, v8, cc8, rfl, hs8, hb8, hp8⟩; have hB8 : Below wc.heap.size wc w8 := (by (repeat with_reducible (first | (exact Below.refl _ _) | (refine Alg.bdrew ?_) | (refine Alg.balloc ?_ _) | (refine Alg.btrans ?_ hb8) | (refine Alg.btrans ?_ hb7))); first | done | fail); have hz8 : w7.heap.size ≤ w8.heap.size := (by have := hb8.size; (repeat rw [World.size_alloc] at this); omega); have hX2 : Box w8 (w7.heap.size) #[.int .u32 0, .slice none 0 0] := (by (repeat with_reducible (first | (exact Box.new' _ _ _ (by first | rfl | exact (World.size_alloc _ _).symm)) | (refine Box.drew ?_) | (refine Box.alloc ?_ _) | (refine Box.mono ?_ hb8) | (refine Box.mono ?_ hb7))); first | done | fail); obtain ⟨q0, q1, z0, z1⟩ := hX2.two)
              | (go_at_call 46; (with_reducible refine (ref_Sub p a3 n3 c3 X.V u7 v7 cc7 (mulL p (trim (divL p X.G Y.G).1) Y.V) _ (by (repeat with_reducible (first | assumption | (refine Sl.drew ?_) | (refine Sl.alloc ?_ _) | (refine Sl.mono ?_ hb7))); first | done | fail) (by (repeat with_reducible (first | assumption | (refine Sl.drew ?_) | (refine Sl.alloc ?_ _) | (refine Sl.mono ?_ hb7))); first | done | fail) (by omega) hp (by omega) (by omega)).mono ?_); rintro e w8 ⟨u8, v8, cc8, rfl, hs8, hb8, hp8⟩; have hB8 : Below wc.heap.size wc w8 := (by (repeat with_reducible (first | (exact Below.refl _ _) | (refine Alg.bdrew ?_) | (refine Alg.balloc ?_ _) | (refine Alg.btrans ?_ hb8) | (refine Alg.btrans ?_ hb7))); first | done | fail); have hz8 : w7.heap.size ≤ w8.heap.size := (by have := hb8.size; (repeat rw [World.size_alloc] at this); omega); have hNo : True := trivial)
              | fail)
          all_goals go_wp2
          all_goals go_meet
          all_goals
            have eS : subL p X.V (mulL p (trim (divL p X.G Y.G).1) Y.V) = (gstep p X Y).V := (subL_eq hp1 HC2.out).symm
            rw [eS] at hs8
            have oU : Offs RR u8 v8 := Offs.fresh hp8 (by intro r hr; have := HRR.out r hr; (repeat rw [World.size_alloc]); omega)
            try
              (have _h := hNo
               exact ⟨_, _, _, _, rfl, by omega, balloc hB8 _, Box.new' _ _ _ rfl, hs8.alloc _, oU⟩)
          all_goals
            refine ⟨_, _, _, _, rfl, by omega, bset (bset hB8 ?_ _) ?_ _, hX2.put2 _ _, (hs8.setCell ?_ _).setCell ?_ _, oU⟩
            all_goals first
              | omega
              | exact hp8.off0 (by (repeat rw [World.size_alloc]); omega)
        case rest =>
          obtain ⟨bv, va, vn, vc', rfl, hbv, bel5, bV, sV, oV⟩ := hcut
          have hsz5 := bel5.size
          have hbvl := bV.lt
          have hsz6 := bel4.size
          clear bxq byq bqq hq4 sxq syq
          have HS0 : Hid (St w wc [#[.int .u32 (p : Int), .slice fa fn fcap], #[.int .u32 (p : Int), .slice ga gn gcap], #[.int .u32 0, .slice none 0 0, .int .u32 0, .slice none 0 0, .int .u32 0, .slice none 0 0]] p RR [((w.heap.size + 1 + 1 + 1), X.G), ((w.heap.size + 1 + 1 + 1 + 1), Y.G), (w1.heap.size, X.U), ((w1.heap.size + 1), X.V), ((w1.heap.size + 1 + 1), Y.U), ((w1.heap.size + 1 + 1 + 1), Y.V), ((w2.heap.size + 1), (trim (divL p X.G Y.G).2)), (bu, (gstep p X Y).U), (bv, (gstep p X Y).V)]) := Alg.hid {
            boxes := (((hB.mono bel3).mono bel4).mono bel5)
            nd := by simp only [List.map_cons, List.map_nil, List.nodup_cons, List.mem_cons, List.not_mem_nil, or_false, not_or, not_false_eq_true, List.nodup_nil, and_true]; omega
            pv := by
              have oR : Offs RR ra rn := Offs.fresh hpr2 (by intro r hr; rw [← HRE.out] at hr; simp only [List.mem_cons, List.not_mem_nil, or_false] at hr; omega)
              rw [HRE.out] at oX1 oX2 oX3 oY1 oY2 oY3
              have q0 : Pv wc (w.heap.size + 1 + 1 + 1) p RR X.G := (((Pv.mono ⟨_, _, _, bX1, sX1, oX1⟩ bel3).mono bel4).mono bel5)
              have q1 : Pv wc (w.heap.size + 1 + 1 + 1 + 1) p RR Y.G := (((Pv.mono ⟨_, _, _, bY1, sY1, oY1⟩ bel3).mono bel4).mono bel5)
              have q2 : Pv wc w1.heap.size p RR X.U := (((Pv.mono ⟨_, _, _, bX2, sX2, oX2⟩ bel3).mono bel4).mono bel5)
              have q3 : Pv wc (w1.heap.size + 1) p RR X.V := (((Pv.mono ⟨_, _, _, bX3, sX3, oX3⟩ bel3).mono bel4).mono bel5)
              have q4 : Pv wc (w1.heap.size + 1 + 1) p RR Y.U := (((Pv.mono ⟨_, _, _, bY2, sY2, oY2⟩ bel3).mono bel4).mono bel5)
              have q5 : Pv wc (w1.heap.size + 1 + 1 + 1) p RR Y.V := (((Pv.mono ⟨_, _, _, bY3, sY3, oY3⟩ bel3).mono bel4).mono bel5)
              have q6 : Pv wc (w2.heap.size + 1) p RR (trim (divL p X.G Y.G).2) := ((Pv.mono ⟨_, _, _, hy3.box (j := 1) rfl, hr2.mono hy3.below, oR⟩ bel4).mono bel5)
              have q7 : Pv wc bu p RR (gstep p X Y).U := (Pv.mono ⟨_, _, _, bU, sU, oU⟩ bel5)
              have q8 : Pv wc bv p RR (gstep p X Y).V := ⟨_, _, _, bV, sV, oV⟩
              intro k b l hk
              rcases k with _ | _ | _ | _ | _ | _ | _ | _ | _ | k
              all_goals
                simp only [List.getElem?_cons_zero, List.getElem?_cons_succ, List.getElem?_nil, Option.some.injEq, Prod.mk.injEq, reduceCtorEq] at hk
                (try (obtain ⟨rfl, rfl⟩ := hk; assumption)) }
          have HM : Hid (((w.heap.size + 1 + 1 + 1) ∈ RR ∧ (w.heap.size + 1 + 1 + 1 + 1) ∈ RR ∧ w1.heap.size ∈ RR) ∧ (w1.heap.size + 1) ∈ RR ∧ (w1.heap.size + 1 + 1) ∈ RR ∧ (w1.heap.size + 1 + 1 + 1) ∈ RR) := Alg.hid (by rw [← HRE.out]; simp)
          clear bX1 bX2 bX3 bY1 bY2 bY3 sX1 sX2 sX3 sY1 sY2 sY3 oX1 oX2 oX3 oY1 oY2 oY3 hB bel5 bel4 bV sV oV bU sU oU hy3 hr2 hq2
          clear x0 x1 y0 y1
          have HT0 := HS0
          obtain ⟨a1, n1, c1, v1, q0, q1, r0, r1, z0, z1, HT⟩ := (HT0.out).step 0 1 rfl rfl HM.out.1.1 (by show w.heap.size + 3 ≤ _; omega)
          go_upto_region 12 with fail
          try clear q0 q1 r0 r1 z0 z1
          generalize hg1 : (World.setCell (World.setCell wc _ _) _ _) = t1 at HT ⊢
          clear hg1
          simp only [List.set_cons_zero] at HT
          have HT1 := Alg.hid HT
          clear HT
          obtain ⟨a2, n2, c2, v2, q0, q1, r0, r1, z0, z1, HT⟩ := (HT1.out).step 2 4 rfl rfl HM.out.1.2.2 (by show w.heap.size + 3 ≤ _; omega)
          go_upto_region 13 with fail
          try clear q0 q1 r0 r1 z0 z1
          generalize hg2 : (World.setCell (World.setCell t1 _ _) _ _) = t2 at HT ⊢
          clear hg2
          simp only [List.set_cons_zero, List.set_cons_succ] at HT
          have HT2 := Alg.hid HT
          clear HT
          obtain ⟨a3, n3, c3, v3, q0, q1, r0, r1, z0, z1, HT⟩ := (HT2.out).step 3 5 rfl rfl HM.out.2.1 (by show w.heap.size + 3 ≤ _; omega)
          go_upto_region 14 with fail
          try clear q0 q1 r0 r1 z0 z1
          generalize hg3 : (World.setCell (World.setCell t2 _ _) _ _) = t3 at HT ⊢
          clear hg3
          simp only [List.set_cons_zero, List.set_cons_succ] at HT
          have HT3 := Alg.hid HT
          clear HT
          obtain ⟨a4, n4, c4, v4, q0, q1, r0, r1, z0, z1, HT⟩ := (HT3.out).step 1 6 rfl rfl HM.out.1.2.1 (by show w.heap.size + 3 ≤ _; omega)
          go_upto_region 15 with fail
          try clear q0 q1 r0 r1 z0 z1
          generalize hg4 : (World.setCell (World.setCell t3 _ _) _ _) = t4 at HT ⊢
          clear hg4
          simp only [List.set_cons_zero, List.set_cons_succ] at HT
          have HT4 := Alg.hid HT
          clear HT
          obtain ⟨a5, n5, c5, v5, q0, q1, r0, r1, z0, z1, HT⟩ := (HT4.out).step 4 7 rfl rfl HM.out.2.2.1 (by show w.heap.size + 3 ≤ _; omega)
          go_upto_region 16 with fail
          try clear q0 q1 r0 r1 z0 z1
          generalize hg5 : (World.setCell (World.setCell t4 _ _) _ _) = t5 at HT ⊢
          clear hg5
          simp only [List.set_cons_zero, List.set_cons_succ] at HT
          have HT5 := Alg.hid HT
          clear HT
          obtain ⟨a6, n6, c6, v6, q0, q1, r0, r1, z0, z1, HT⟩ := (HT5.out).step 5 8 rfl rfl HM.out.2.2.2 (by show w.heap.size + 3 ≤ _; omega)
          go_wp2_with fail
          try clear q0 q1 r0 r1 z0 z1
          generalize hg6 : (World.setCell (World.setCell t5 _ _) _ _) = t6 at HT ⊢
          clear hg6
          simp only [List.set_cons_zero, List.set_cons_succ] at HT
          have HT6 := Alg.hid HT
          clear HT
          go_wp2
          go_roundw
          case rel =>
            rw [HRE.out]
            exact ⟨Y, gstep p X Y, HS.out.1, HT6.out.boxes, HT6.out.pv 0 _ _ rfl, HT6.out.pv 1 _ _ rfl, HT6.out.pv 2 _ _ rfl, HT6.out.pv 3 _ _ rfl, HT6.out.pv 4 _ _ rfl, HT6.out.pv 5 _ _ rfl⟩
          case measure =>
            have h9 := HS.out.2
            obtain ⟨a, n, c, bx, sx, _⟩ := HT6.out.pv 1 _ _ rfl
            have h10 := (lenAt_eq (bx.cell 1 _ rfl)).trans sx.len.symm
            rw [hlen.out, h10]
            exact h9
theorem ref_Gcd (p : Nat) (fa : Option Addr) (fn fcap : Nat) (fl : List Nat) (ga : Option Addr) (gn gcap : Nat) (gl : List Nat) (w : World) (hf : Sl w fa fn fcap fl) (hg : Sl w ga gn gcap gl)
    (hpr : IsPr p) (hp : p < 4294967296) (hfn : fn ≤ 274877906944) (hgn : gn ≤ 274877906944) (cf : Canon p fl) (cg : Canon p gl) :
    Calls Tryd.prog 57 #[.agg #[.int .u32 (p : Int), .slice fa fn fcap], .agg #[.int .u32 (p : Int), .slice ga gn gcap]] w (RetT p (gcdL p fl gl) w):=
  (ref_GcdP p fa fn fcap fl ga gn gcap gl w hf hg hpr hp hfn hgn cf cg).mono fun _ _ h => h.t
end Go.Proofs.YtcbhoedifgghhaaDoor
end
