/- Contracts of whole.of, whole.DivMod by one limb, whole.Int, modp.From. Contracts of whole.Int and modp.From. Contracts of the reference's trim and Of of whole numbers. -/
import Derived.Test.YtbnjmeeaaieicaaDoorV3
import Derived.Test.YtbnjmeeaaieicaaDoorW30
import Derived.Test.YtbnjmeeaaieicaaDoorW46
section
open Alg Go Go.RowKit
namespace Alg
/-- the sign of a size -/
def sg (neg : Bool) (n : Nat) : Bool := neg && decide (0 < n)
theorem sg_f (n : Nat) : sg false n = false := rfl
theorem sg_t1 {n : Nat} (h : 0 < n) : sg true n = true := by simp [sg, h]
theorem sg_t0 : sg true 0 = false := rfl
/-- a quotient, and what is left, as whole numbers -/
def RetID (qn : Bool) (Q R : Nat) (w : World) (e : Ending) (w' : World) : Prop :=
  ∃ a n cap b m cap', e = .returned (.tuple #[.agg #[.bool qn, .slice a n cap], .agg #[.bool false, .slice b m cap'], .int .i64 0]) ∧ Sl w' a n cap (lim Q) ∧ Sl w' b m cap' (lim R) ∧ Below w.heap.size w w' ∧ Prov w [] a n ∧ Prov w [] b m
end Alg
namespace Go.Proofs.YtbnjmeeaaieicaaDoor
open Go.RowKit
theorem whole_of (neg : Bool) (a : Option Addr) (n cap : Nat) (w : World) :
    Calls Tryd.prog 108 #[.bool neg, .slice a n cap] w fun e w' => e = .returned (.agg #[.bool (sg neg n), .slice a n cap]) ∧ Below w.heap.size w w' := by
  cases neg with
  | false => exact whole_of_f1 a n cap w
  | true =>
    by_cases h : 0 < n
    · rw [sg_t1 h]; exact whole_of_t1 a n cap w h
    · obtain rfl : n = 0 := by omega
      exact whole_of_t0 a 0 cap w (by omega)
set_option maxRecDepth 100000 in
set_option maxHeartbeats 1000000 in
theorem whole_DivMod1_p (a : Option Addr) (n cap : Nat) (la : List Nat) (b : Option Addr) (cap' : Nat) (lb : List Nat) (d : Nat) (w : World) (ha : Sl w a n cap la) (hb : Sl w b 1 cap' lb) (hn : n ≤ 100000000) (ca : Canon 4294967296 la) (hlb : lb = [d]) (hd0 : 0 < d) (hd : d < 4294967296) :
    Calls Tryd.prog 71 #[.agg #[.bool false, .slice a n cap], .agg #[.bool false, .slice b 1 cap']] w (RetID false (valN la / d) (valN la % d) w) := by
  have hbx : Boxes w ((((w.alloc (.cells #[.bool false, .slice a n cap] 25)).alloc (.cells #[.bool false, .slice b 1 cap'] 25)).alloc (.cells #[.bool false, .slice none 0 0] 25)).alloc (.cells #[.bool false, .slice none 0 0] 25)) [#[.bool false, .slice a n cap], #[.bool false, .slice b 1 cap'], #[.bool false, .slice none 0 0], #[.bool false, .slice none 0 0]] := (((boxes2 w #[.bool false, .slice a n cap] #[.bool false, .slice b 1 cap'] 25 25).alloc (by simp) #[.bool false, .slice none 0 0] 25).alloc (by simp) #[.bool false, .slice none 0 0] 25)
  have K : Hid (∀ W, Boxes w W [#[.bool false, .slice a n cap], #[.bool false, .slice b 1 cap'], #[.bool false, .slice none 0 0], #[.bool false, .slice none 0 0]] → W.cell? ⟨w.heap.size, 0, none⟩ = some (.bool false) ∧ W.cell? ⟨w.heap.size, 1, none⟩ = some (.slice a n cap) ∧ W.cell? ⟨w.heap.size + 1, 0, none⟩ = some (.bool false) ∧ W.cell? ⟨w.heap.size + 1, 1, none⟩ = some (.slice b 1 cap') ∧ W.cell? ⟨w.heap.size + 1 + 1, 0, none⟩ = some (.bool false) ∧ W.cell? ⟨w.heap.size + 1 + 1, 1, none⟩ = some (.slice none 0 0) ∧ W.cell? ⟨w.heap.size + 1 + 1 + 1, 0, none⟩ = some (.bool false) ∧ W.cell? ⟨w.heap.size + 1 + 1 + 1, 1, none⟩ = some (.slice none 0 0) ∧ W.frozen? ⟨w.heap.size + 1 + 1, 0, none⟩ = false ∧ W.frozen? ⟨w.heap.size + 1 + 1, 1, none⟩ = false ∧ W.frozen? ⟨w.heap.size + 1 + 1 + 1, 0, none⟩ = false ∧ W.frozen? ⟨w.heap.size + 1 + 1 + 1, 1, none⟩ = false) := fun W h => ⟨h.cell' 0 0 _ _ rfl rfl, h.cell' 0 1 _ _ rfl rfl, h.cell' 1 0 _ _ rfl rfl, h.cell' 1 1 _ _ rfl rfl, h.cell' 2 0 _ _ rfl rfl, h.cell' 2 1 _ _ rfl rfl, h.cell' 3 0 _ _ rfl rfl, h.cell' 3 1 _ _ rfl rfl, h.frozen' 2 0 (by simp), h.frozen' 2 1 (by simp), h.frozen' 3 0 (by simp), h.frozen' 3 1 (by simp)⟩
  obtain ⟨Q, hQ⟩ : ∃ Q, Q = valN la / d := ⟨_, rfl⟩
  obtain ⟨R, hR⟩ : ∃ R, R = valN la % d := ⟨_, rfl⟩
  have HQ := Alg.hid hQ
  have HR := Alg.hid hR
  rw [← hQ, ← hR]
  clear hQ hR
  go_enter Tryd.func71, Tryd.ntmps71
  go_wp2_with fail
  generalize hW0 : ((((w.alloc (.cells #[.bool false, .slice a n cap] 25)).alloc (.cells #[.bool false, .slice b 1 cap'] 25)).alloc (.cells #[.bool false, .slice none 0 0] 25)).alloc (.cells #[.bool false, .slice none 0 0] 25)) = W0 at hbx ⊢
  clear hW0
  have ha0 := ha.mono hbx.below
  have hb0 := hb.mono hbx.below
  have sz0 := hbx.size
  simp only [List.length_cons, List.length_nil] at sz0
  refine (nat_DivMod1 a n cap la b cap' lb d _ ha0 hb0 (by omega) ca hlb hd0 hd).mono ?_
  rw [← HQ.out, ← HR.out]
  rintro e w1 ⟨qa, qN, qc, ra, rN, rc, rfl, hsq, hsr, hb1, hpq, hpr⟩
  have hx1 := hbx.mono hb1
  have hrl := hsr.len
  have hql := hsq.len
  obtain ⟨d0, d1, d2, d3, d4, d5, d6, d7, d8, d9, d10, d11⟩ := K.out w1 hx1
  go_wp2_with fail
  refine (whole_of false qa qN qc _).mono ?_
  rw [sg_f]
  rintro e w2 ⟨rfl, hb2⟩
  have hx2 := hx1.mono hb2
  clear d0 d1 d2 d3 d4 d5 d6 d7 d8 d9 d10 d11
  obtain ⟨d0, d1, d2, d3, d4, d5, d6, d7, d8, d9, d10, d11⟩ := K.out w2 hx2
  go_wp2_with fail
  refine (whole_of false ra rN rc _).mono ?_
  rw [sg_f]
  rintro e w3 ⟨rfl, hb3⟩
  have hx3 := hx2.mono hb3
  clear d0 d1 d2 d3 d4 d5 d6 d7 d8 d9 d10 d11
  obtain ⟨d0, d1, d2, d3, d4, d5, d6, d7, d8, d9, d10, d11⟩ := K.out w3 hx3
  go_wp2
  (try simp only [Exit.inBlock, Exit.then])
  refine bodyPost_ret (v := .tuple #[.agg #[.bool false, .slice qa qN qc], .agg #[.bool false, .slice ra rN rc], .int .i64 0]) (by simp [results, Tryd.results71, go_sem, d4, d5, d6, d7]) rfl ?_
  have hsq3 := (hsq.mono hb2).mono hb3
  have hsr3 := (hsr.mono hb2).mono hb3
  have oq2 : Off qa qN (w.heap.size + 1 + 1) := hpq.off0 (by omega)
  have oq3 : Off qa qN (w.heap.size + 1 + 1 + 1) := hpq.off0 (by omega)
  have or2 : Off ra rN (w.heap.size + 1 + 1) := hpr.off0 (by omega)
  have or3 : Off ra rN (w.heap.size + 1 + 1 + 1) := hpr.off0 (by omega)
  exact ⟨_, _, _, _, _, _, rfl, (((hsq3.setCell oq2 _).setCell oq2 _).setCell oq3 _).setCell oq3 _, (((hsr3.setCell or2 _).setCell or2 _).setCell or3 _).setCell or3 _,
    (((hx3.below.setCell (p := ⟨w.heap.size + 1 + 1, 0, none⟩) (by simp; omega) _).setCell (p := ⟨w.heap.size + 1 + 1, 1, none⟩) (by simp; omega) _).setCell (p := ⟨w.heap.size + 1 + 1 + 1, 0, none⟩) (by simp; omega) _).setCell (p := ⟨w.heap.size + 1 + 1 + 1, 1, none⟩) (by simp; omega) _,
    hpq.mono (by omega), hpr.mono (by omega)⟩
set_option maxRecDepth 100000 in
set_option maxHeartbeats 1000000 in
theorem whole_DivMod1_z (a : Option Addr) (n cap : Nat) (la : List Nat) (b : Option Addr) (cap' : Nat) (lb : List Nat) (d : Nat) (w : World) (ha : Sl w a n cap la) (hb : Sl w b 1 cap' lb) (hn : n ≤ 100000000) (ca : Canon 4294967296 la) (hlb : lb = [d]) (hd0 : 0 < d) (hd : d < 4294967296) (hz : valN la % d = 0) :
    Calls Tryd.prog 71 #[.agg #[.bool true, .slice a n cap], .agg #[.bool false, .slice b 1 cap']] w (RetID (sg true (lim (valN la / d)).length) (valN la / d) 0 w) := by
  have hbx : Boxes w ((((w.alloc (.cells #[.bool true, .slice a n cap] 25)).alloc (.cells #[.bool false, .slice b 1 cap'] 25)).alloc (.cells #[.bool false, .slice none 0 0] 25)).alloc (.cells #[.bool false, .slice none 0 0] 25)) [#[.bool true, .slice a n cap], #[.bool false, .slice b 1 cap'], #[.bool false, .slice none 0 0], #[.bool false, .slice none 0 0]] := (((boxes2 w #[.bool true, .slice a n cap] #[.bool false, .slice b 1 cap'] 25 25).alloc (by simp) #[.bool false, .slice none 0 0] 25).alloc (by simp) #[.bool false, .slice none 0 0] 25)
  have K : Hid (∀ W, Boxes w W [#[.bool true, .slice a n cap], #[.bool false, .slice b 1 cap'], #[.bool false, .slice none 0 0], #[.bool false, .slice none 0 0]] → W.cell? ⟨w.heap.size, 0, none⟩ = some (.bool true) ∧ W.cell? ⟨w.heap.size, 1, none⟩ = some (.slice a n cap) ∧ W.cell? ⟨w.heap.size + 1, 0, none⟩ = some (.bool false) ∧ W.cell? ⟨w.heap.size + 1, 1, none⟩ = some (.slice b 1 cap') ∧ W.cell? ⟨w.heap.size + 1 + 1, 0, none⟩ = some (.bool false) ∧ W.cell? ⟨w.heap.size + 1 + 1, 1, none⟩ = some (.slice none 0 0) ∧ W.cell? ⟨w.heap.size + 1 + 1 + 1, 0, none⟩ = some (.bool false) ∧ W.cell? ⟨w.heap.size + 1 + 1 + 1, 1, none⟩ = some (.slice none 0 0) ∧ W.frozen? ⟨w.heap.size + 1 + 1, 0, none⟩ = false ∧ W.frozen? ⟨w.heap.size + 1 + 1, 1, none⟩ = false ∧ W.frozen? ⟨w.heap.size + 1 + 1 + 1, 0, none⟩ = false ∧ W.frozen? ⟨w.heap.size + 1 + 1 + 1, 1, none⟩ = false) := fun W h => ⟨h.cell' 0 0 _ _ rfl rfl, h.cell' 0 1 _ _ rfl rfl, h.cell' 1 0 _ _ rfl rfl, h.cell' 1 1 _ _ rfl rfl, h.cell' 2 0 _ _ rfl rfl, h.cell' 2 1 _ _ rfl rfl, h.cell' 3 0 _ _ rfl rfl, h.cell' 3 1 _ _ rfl rfl, h.frozen' 2 0 (by simp), h.frozen' 2 1 (by simp), h.frozen' 3 0 (by simp), h.frozen' 3 1 (by simp)⟩
  obtain ⟨Q, hQ⟩ : ∃ Q, Q = valN la / d := ⟨_, rfl⟩
  obtain ⟨R, hR⟩ : ∃ R, R = valN la % d := ⟨_, rfl⟩
  have HQ := Alg.hid hQ
  have HR := Alg.hid hR
  rw [← hQ]
  have HZ : Hid (R = 0) := by show _ = _; rw [hR, hz]
  clear hQ hR hz
  go_enter Tryd.func71, Tryd.ntmps71
  go_wp2_with fail
  generalize hW0 : ((((w.alloc (.cells #[.bool true, .slice a n cap] 25)).alloc (.cells #[.bool false, .slice b 1 cap'] 25)).alloc (.cells #[.bool false, .slice none 0 0] 25)).alloc (.cells #[.bool false, .slice none 0 0] 25)) = W0 at hbx ⊢
  clear hW0
  have ha0 := ha.mono hbx.below
  have hb0 := hb.mono hbx.below
  have sz0 := hbx.size
  simp only [List.length_cons, List.length_nil] at sz0
  refine (nat_DivMod1 a n cap la b cap' lb d _ ha0 hb0 (by omega) ca hlb hd0 hd).mono ?_
  rw [← HQ.out, ← HR.out]
  rintro e w1 ⟨qa, qN, qc, ra, rN, rc, rfl, hsq, hsr, hb1, hpq, hpr⟩
  have hx1 := hbx.mono hb1
  have hrl := hsr.len
  have hql := hsq.len
  obtain ⟨d0, d1, d2, d3, d4, d5, d6, d7, d8, d9, d10, d11⟩ := K.out w1 hx1
  rw [HZ.out] at hsr
  rw [HZ.out, lim_zero] at hrl
  have hr0 : ((rN : Int) == 0) = true := by
    have h2 : ([] : List Nat).length = 0 := rfl
    rw [h2] at hrl
    rw [← hrl]; rfl
  clear hrl
  go_wp2_with fail
  refine (whole_of true qa qN qc _).mono ?_
  rintro e w2 ⟨rfl, hb2⟩
  have hx2 := hx1.mono hb2
  clear d0 d1 d2 d3 d4 d5 d6 d7 d8 d9 d10 d11
  obtain ⟨d0, d1, d2, d3, d4, d5, d6, d7, d8, d9, d10, d11⟩ := K.out w2 hx2
  go_wp2_with fail
  refine (whole_of false ra rN rc _).mono ?_
  rw [sg_f]
  rintro e w3 ⟨rfl, hb3⟩
  have hx3 := hx2.mono hb3
  clear d0 d1 d2 d3 d4 d5 d6 d7 d8 d9 d10 d11
  obtain ⟨d0, d1, d2, d3, d4, d5, d6, d7, d8, d9, d10, d11⟩ := K.out w3 hx3
  go_wp2
  (try simp only [Exit.inBlock, Exit.then])
  refine bodyPost_ret (v := .tuple #[.agg #[.bool (sg true (lim Q).length), .slice qa qN qc], .agg #[.bool false, .slice ra rN rc], .int .i64 0]) (by simp [results, Tryd.results71, go_sem, hql, d4, d5, d6, d7]) rfl ?_
  have hsq3 := (hsq.mono hb2).mono hb3
  have hsr3 := (hsr.mono hb2).mono hb3
  have oq2 : Off qa qN (w.heap.size + 1 + 1) := hpq.off0 (by omega)
  have oq3 : Off qa qN (w.heap.size + 1 + 1 + 1) := hpq.off0 (by omega)
  have or2 : Off ra rN (w.heap.size + 1 + 1) := hpr.off0 (by omega)
  have or3 : Off ra rN (w.heap.size + 1 + 1 + 1) := hpr.off0 (by omega)
  exact ⟨_, _, _, _, _, _, rfl, (((hsq3.setCell oq2 _).setCell oq2 _).setCell oq3 _).setCell oq3 _, (((hsr3.setCell or2 _).setCell or2 _).setCell or3 _).setCell or3 _,
    (((hx3.below.setCell (p := ⟨w.heap.size + 1 + 1, 0, none⟩) (by simp; omega) _).setCell (p := ⟨w.heap.size + 1 + 1, 1, none⟩) (by simp; omega) _).setCell (p := ⟨w.heap.size + 1 + 1 + 1, 0, none⟩) (by simp; omega) _).setCell (p := ⟨w.heap.size + 1 + 1 + 1, 1, none⟩) (by simp; omega) _,
    hpq.mono (by omega), hpr.mono (by omega)⟩
set_option maxRecDepth 100000 in
set_option maxHeartbeats 1000000 in
theorem whole_DivMod1_n (a : Option Addr) (n cap : Nat) (la : List Nat) (b : Option Addr) (cap' : Nat) (lb : List Nat) (d : Nat) (w : World) (ha : Sl w a n cap la) (hb : Sl w b 1 cap' lb) (hn : n ≤ 100000000) (ca : Canon 4294967296 la) (hlb : lb = [d]) (hd0 : 0 < d) (hd : d < 4294967296) (hz : valN la % d ≠ 0) :
    Calls Tryd.prog 71 #[.agg #[.bool true, .slice a n cap], .agg #[.bool false, .slice b 1 cap']] w (RetID true (valN la / d + 1) (d - valN la % d) w) := by
  have hbx : Boxes w ((((w.alloc (.cells #[.bool true, .slice a n cap] 25)).alloc (.cells #[.bool false, .slice b 1 cap'] 25)).alloc (.cells #[.bool false, .slice none 0 0] 25)).alloc (.cells #[.bool false, .slice none 0 0] 25)) [#[.bool true, .slice a n cap], #[.bool false, .slice b 1 cap'], #[.bool false, .slice none 0 0], #[.bool false, .slice none 0 0]] := (((boxes2 w #[.bool true, .slice a n cap] #[.bool false, .slice b 1 cap'] 25 25).alloc (by simp) #[.bool false, .slice none 0 0] 25).alloc (by simp) #[.bool false, .slice none 0 0] 25)
  have K : Hid (∀ W, Boxes w W [#[.bool true, .slice a n cap], #[.bool false, .slice b 1 cap'], #[.bool false, .slice none 0 0], #[.bool false, .slice none 0 0]] → W.cell? ⟨w.heap.size, 0, none⟩ = some (.bool true) ∧ W.cell? ⟨w.heap.size, 1, none⟩ = some (.slice a n cap) ∧ W.cell? ⟨w.heap.size + 1, 0, none⟩ = some (.bool false) ∧ W.cell? ⟨w.heap.size + 1, 1, none⟩ = some (.slice b 1 cap') ∧ W.cell? ⟨w.heap.size + 1 + 1, 0, none⟩ = some (.bool false) ∧ W.cell? ⟨w.heap.size + 1 + 1, 1, none⟩ = some (.slice none 0 0) ∧ W.cell? ⟨w.heap.size + 1 + 1 + 1, 0, none⟩ = some (.bool false) ∧ W.cell? ⟨w.heap.size + 1 + 1 + 1, 1, none⟩ = some (.slice none 0 0) ∧ W.frozen? ⟨w.heap.size + 1 + 1, 0, none⟩ = false ∧ W.frozen? ⟨w.heap.size + 1 + 1, 1, none⟩ = false ∧ W.frozen? ⟨w.heap.size + 1 + 1 + 1, 0, none⟩ = false ∧ W.frozen? ⟨w.heap.size + 1 + 1 + 1, 1, none⟩ = false) := fun W h => ⟨h.cell' 0 0 _ _ rfl rfl, h.cell' 0 1 _ _ rfl rfl, h.cell' 1 0 _ _ rfl rfl, h.cell' 1 1 _ _ rfl rfl, h.cell' 2 0 _ _ rfl rfl, h.cell' 2 1 _ _ rfl rfl, h.cell' 3 0 _ _ rfl rfl, h.cell' 3 1 _ _ rfl rfl, h.frozen' 2 0 (by simp), h.frozen' 2 1 (by simp), h.frozen' 3 0 (by simp), h.frozen' 3 1 (by simp)⟩
  obtain ⟨Q, hQ⟩ : ∃ Q, Q = valN la / d := ⟨_, rfl⟩
  obtain ⟨R, hR⟩ : ∃ R, R = valN la % d := ⟨_, rfl⟩
  have HQ := Alg.hid hQ
  have HR := Alg.hid hR
  rw [← hQ, ← hR]
  have hRd : R < d := by rw [hR]; exact Nat.mod_lt _ hd0
  have hR0 : R ≠ 0 := by rw [hR]; exact hz
  clear hQ hR hz
  go_enter Tryd.func71, Tryd.ntmps71
  go_wp2_with fail
  generalize hW0 : ((((w.alloc (.cells #[.bool true, .slice a n cap] 25)).alloc (.cells #[.bool false, .slice b 1 cap'] 25)).alloc (.cells #[.bool false, .slice none 0 0] 25)).alloc (.cells #[.bool false, .slice none 0 0] 25)) = W0 at hbx ⊢
  clear hW0
  have ha0 := ha.mono hbx.below
  have hb0 := hb.mono hbx.below
  have sz0 := hbx.size
  simp only [List.length_cons, List.length_nil] at sz0
  refine (nat_DivMod1 a n cap la b cap' lb d _ ha0 hb0 (by omega) ca hlb hd0 hd).mono ?_
  rw [← HQ.out, ← HR.out]
  rintro e w1 ⟨qa, qN, qc, ra, rN, rc, rfl, hsq, hsr, hb1, hpq, hpr⟩
  have hx1 := hbx.mono hb1
  have hrl := hsr.len
  have hql := hsq.len
  obtain ⟨d0, d1, d2, d3, d4, d5, d6, d7, d8, d9, d10, d11⟩ := K.out w1 hx1
  have hr0 : rN ≠ 0 := fun e => by
    rw [e] at hrl
    exact lim_ne hR0 (List.length_eq_zero_iff.1 hrl)
  have hr0' : ((rN : Int) == 0) = false := by simp; omega
  have hr1 : rN ≤ 1 := by rw [← hrl]; exact lim_length_le (by rw [Nat.pow_one]; omega)
  have hq1 : qN ≤ n := by
    rw [← hql]
    refine lim_length_le ?_
    have h1 := valN_lt la ha.lt
    rw [ha.len] at h1
    rw [HQ.out]
    exact Nat.lt_of_le_of_lt (Nat.div_le_self _ _) h1
  have cb : Canon 4294967296 lb := by rw [hlb]; exact ⟨fun c hc => by rw [List.mem_singleton.1 hc]; exact hd, Or.inr (by show d ≠ 0; omega)⟩
  have vb : valN lb = d := by rw [hlb]; show d + 4294967296 * 0 = d; omega
  have hSUB := nat_Sub b 1 cap' lb ra rN rc (lim R) w1 (hb0.mono hb1) hsr (by omega) cb (lim_canon R) (by rw [valN_lim, vb]; omega)
  rw [valN_lim, vb] at hSUB
  have HSUB := Alg.hid hSUB
  clear hr0 hrl hql hSUB vb
  go_wp2_with fail
  refine HSUB.out.mono ?_
  rintro e w2 ⟨ua, un, rfl, hsu, hb2, hpu⟩
  have hx2 := hx1.mono hb2
  have hsq2 := hsq.mono hb2
  clear d0 d1 d2 d3 d4 d5 d6 d7 d8 d9 d10 d11
  obtain ⟨d0, d1, d2, d3, d4, d5, d6, d7, d8, d9, d10, d11⟩ := K.out w2 hx2
  go_wp2
  have hx2d := hx2.drew
  have hsqd := hsq2.drew
  have hsud := hsu.drew
  refine wp_region_lay 9 [(true, 0), (true, 1), (true, 2), (true, 3), (true, 7), (false, 4), (false, 5), (false, 6), (false, 8)] [] (by kernel_rfl) (by kernel_rfl) (fun x hx o ho ρ W => ?_) (fun v0 hv0 => ?_)
  · cases hx

  simp only [pick, List.getElem?_cons_succ, List.getElem?_cons_zero]
  iterate 5
    (refine heldR_quiet (v := ?_) (by rfl) ?_ ?_
     rotate_left
     · intro W hW; obtain ⟨d0, d1, d2, d3, d4, d5, d6, d7, d8, d9, d10, d11⟩ := K.out W (hx2d.mono hW); go_simp; (try with_reducible rfl)
     try simp only [Act.put, List.setIfInBounds_toArray, List.set_cons_zero, List.set_cons_succ])
  refine heldR_loud (fun K' hK => ?_)
  go_simp
  refine (nat_Of 1 v0 (by omega)).mono ?_
  rintro e vA ⟨oa, on, rfl, hsO, hbA, hpO⟩
  refine hK.out _ _ (hbA) (fun v1 hv1 => ?_)
  clear hK K'
  have rv1 := (hv0.tr hbA).tr hv1
  have hsO1 := hsO.mono hv1
  rw [limbs_lim (by omega)] at hsO1
  have on1 : on ≤ 2 := by rw [← hsO1.len]; exact lim_length_le (by decide)
  try simp only [Act.put, List.setIfInBounds_toArray, List.set_cons_zero, List.set_cons_succ]
  refine heldR_loud (fun K' hK => ?_)
  go_simp
  refine (nat_Add qa qN qc (lim Q) oa on on (lim 1) v1 (hsqd.mono rv1) hsO1 (by omega) (by omega)).mono ?_
  rw [valN_lim, valN_lim]
  rintro e vB ⟨sa, sn, rfl, hsS, hbB, hpS⟩
  refine hK.out _ _ (hbB) (fun v2 hv2 => ?_)
  clear hK K'
  have rv2 := (rv1.tr hbB).tr hv2
  have hsS2 := hsS.mono hv2
  have sn0 : 0 < sn := by
    rw [← hsS2.len]
    rcases Nat.eq_zero_or_pos (lim (Q + 1)).length with h | h
    · exact absurd (List.length_eq_zero_iff.1 h) (lim_ne (by omega))
    · exact h
  try simp only [Act.put, List.setIfInBounds_toArray, List.set_cons_zero, List.set_cons_succ]
  refine heldR_loud (fun K' hK => ?_)
  go_simp
  refine (whole_of true sa sn sn v2).mono ?_
  rw [sg_t1 sn0]
  rintro e vC ⟨rfl, hbC⟩
  refine hK.out _ _ (hbC) (fun v3 hv3 => ?_)
  clear hK K'
  have rv3 := (rv2.tr hbC).tr hv3
  try simp only [Act.put, List.setIfInBounds_toArray, List.set_cons_zero, List.set_cons_succ]
  refine heldR_loud (fun K' hK => ?_)
  go_simp
  refine (whole_of false ua un un v3).mono ?_
  rw [sg_f]
  rintro e vD ⟨rfl, hbD⟩
  refine hK.out _ _ (hbD) (fun v4 hv4 => ?_)
  clear hK K'
  have rv4 := (rv3.tr hbD).tr hv4
  try simp only [Act.put, List.setIfInBounds_toArray, List.set_cons_zero, List.set_cons_succ]
  refine heldR_nil ?_
  intro bl wz hRz _ _
  show wpList _ _ _ _ _ wz
  have rvz := rv4.tr hRz
  have hxz := hx2d.mono rvz
  clear d0 d1 d2 d3 d4 d5 d6 d7 d8 d9 d10 d11
  obtain ⟨d0, d1, d2, d3, d4, d5, d6, d7, d8, d9, d10, d11⟩ := K.out wz hxz
  simp only [List.drop_succ_cons, List.drop_zero, acts]
  (try simp only [Act.put, List.setIfInBounds_toArray, List.set_cons_zero, List.set_cons_succ])
  go_wp2
  refine NoPanic.normal ?_
  go_wp2
  (try simp only [Exit.inBlock, Exit.then])
  refine bodyPost_ret (v := .tuple #[.agg #[.bool true, .slice sa sn sn], .agg #[.bool false, .slice ua un un], .int .i64 0]) (by simp [results, Tryd.results71, go_sem, d4, d5, d6, d7]) rfl ?_
  have hsSz := ((hsS2.mono (Rb.tr hbC (hv3.tr (Rb.tr hbD hv4)))).mono hRz)
  have hsUz := hsud.mono rvz
  have z2 := hx2.size
  have zv := hv0.size
  have z2d : w2.drew.heap.size = w2.heap.size := rfl
  have zA := hbA.size
  have z1 := hv1.size
  simp only [List.length_cons, List.length_nil] at z2
  have os2 : Off sa sn (w.heap.size + 1 + 1) := hpS.off0 (by omega)
  have os3 : Off sa sn (w.heap.size + 1 + 1 + 1) := hpS.off0 (by omega)
  have ou2 : Off ua un (w.heap.size + 1 + 1) := hpu.off0 (by have := hb1.size; omega)
  have ou3 : Off ua un (w.heap.size + 1 + 1 + 1) := hpu.off0 (by have := hb1.size; omega)
  exact ⟨_, _, _, _, _, _, rfl, (((hsSz.setCell os2 _).setCell os2 _).setCell os3 _).setCell os3 _, (((hsUz.setCell ou2 _).setCell ou2 _).setCell ou3 _).setCell ou3 _,
    (((hxz.below.setCell (p := ⟨w.heap.size + 1 + 1, 0, none⟩) (by simp; omega) _).setCell (p := ⟨w.heap.size + 1 + 1, 1, none⟩) (by simp; omega) _).setCell (p := ⟨w.heap.size + 1 + 1 + 1, 0, none⟩) (by simp; omega) _).setCell (p := ⟨w.heap.size + 1 + 1 + 1, 1, none⟩) (by simp; omega) _,
    hpS.mono (by omega), hpu.mono (by have := hb1.size; omega)⟩
end Go.Proofs.YtbnjmeeaaieicaaDoor
end
section
open Alg Go Go.RowKit
namespace Alg
/-- what is left of a whole number, from 0 on -/
def remZ (d : Nat) (neg : Bool) (A : Nat) : Nat := if neg = true ∧ A % d ≠ 0 then d - A % d else A % d
theorem remZ_lt {d A : Nat} {neg : Bool} (h : 0 < d) : remZ d neg A < d := by
  have := Nat.mod_lt A h
  unfold remZ; split <;> omega
theorem lim_one {d : Nat} (h0 : 0 < d) (h : d < 4294967296) : lim d = [d] := by
  rw [lim_pos (by omega), Nat.mod_eq_of_lt h, Nat.div_eq_of_lt h, lim_zero]
def RetID' (R : Nat) (w : World) (e : Ending) (w' : World) : Prop := ∃ qn Q, RetID qn Q R w e w'
end Alg
namespace Go.Proofs.YtbnjmeeaaieicaaDoor
open Go.RowKit
theorem whole_DivMod1 (neg : Bool) (a : Option Addr) (n cap : Nat) (la : List Nat) (b : Option Addr) (m cap' : Nat) (d : Nat) (w : World) (ha : Sl w a n cap la) (hb : Sl w b m cap' [d]) (hn : n ≤ 100000000) (ca : Canon 4294967296 la) (hd0 : 0 < d) (hd : d < 4294967296) :
    Calls Tryd.prog 71 #[.agg #[.bool neg, .slice a n cap], .agg #[.bool false, .slice b m cap']] w (RetID' (remZ d neg (valN la)) w) := by
  obtain rfl : m = 1 := hb.len.symm
  cases neg with
  | false =>
    have e : remZ d false (valN la) = valN la % d := by unfold remZ; rw [if_neg (by simp)]
    rw [e]
    exact (whole_DivMod1_p a n cap la b cap' [d] d w ha hb hn ca rfl hd0 hd).mono fun _ _ h => ⟨_, _, h⟩
  | true =>
    by_cases hz : valN la % d = 0
    · have e : remZ d true (valN la) = 0 := by unfold remZ; rw [if_neg (by simp [hz])]; exact hz
      rw [e]
      exact (whole_DivMod1_z a n cap la b cap' [d] d w ha hb hn ca rfl hd0 hd hz).mono fun _ _ h => ⟨_, _, h⟩
    · have e : remZ d true (valN la) = d - valN la % d := by unfold remZ; rw [if_pos ⟨rfl, hz⟩]
      rw [e]
      exact (whole_DivMod1_n a n cap la b cap' [d] d w ha hb hn ca rfl hd0 hd hz).mono fun _ _ h => ⟨_, _, h⟩
theorem whole_Int (a : Option Addr) (n cap : Nat) (la : List Nat) (w : World) (ha : Sl w a n cap la) (hn : n ≤ 2) (hv : valN la < 9223372036854775808) :
    Calls Tryd.prog 73 #[.agg #[.bool false, .slice a n cap]] w fun e w' => e = .returned (.tuple #[.int .i64 (valN la : Nat), .bool true]) ∧ Below w.heap.size w w' := by
  have hbx := boxes1 w #[.bool false, .slice a n cap] 25
  obtain ⟨V, hV⟩ : ∃ V, V = valN la := ⟨_, rfl⟩
  rw [← hV] at hv ⊢
  have g1 : ¬ (9223372036854775808 : Int) < (V : Int) := by omega
  have g2 : ((V : Int) == 9223372036854775808) = false := by simp; omega
  have HV := Alg.hid hV
  have g3 : IntKind.i64.wrap (V : Int) = (V : Int) := IntWalk.i64_in _ (by omega)
  clear hV
  go_enter Tryd.func73, Tryd.ntmps73
  go_wp2_with fail
  have hbb := hbx.below
  refine (nat_Uint a n cap la _ (ha.mono hbb) hn).mono ?_
  rw [← HV.out]
  rintro e w1 ⟨rfl, hb1⟩
  have hx1 := hbx.mono hb1
  have d0 : w1.cell? ⟨w.heap.size, 0, none⟩ = some (.bool false) := hx1.cell' 0 0 _ _ rfl rfl
  go_wp2
  go_ret2
  exact ⟨rfl, hx1.below⟩
set_option maxRecDepth 100000 in
set_option maxHeartbeats 1000000 in
theorem modp_From (p : Nat) (neg : Bool) (a : Option Addr) (n cap : Nat) (la : List Nat) (w : World) (ha : Sl w a n cap la) (hn : n ≤ 100000000) (ca : Canon 4294967296 la) (hp0 : 0 < p) (hp : p < 4294967296) :
    Calls Tryd.prog 19 #[.int .u32 p, .agg #[.bool neg, .slice a n cap]] w fun e w' => e = .returned (.int .u32 (remZ p neg (valN la) : Nat)) ∧ Below w.heap.size w w' := by
  have hbx := boxes1 w #[.bool neg, .slice a n cap] 25
  obtain ⟨R, hR⟩ : ∃ R, R = remZ p neg (valN la) := ⟨_, rfl⟩
  have hRp : R < p := by rw [hR]; exact remZ_lt hp0
  rw [← hR]
  have HR := Alg.hid hR
  have wp1 : IntKind.i64.wrap (p : Int) = (p : Int) := IntWalk.i64_in _ (by omega)
  clear hR
  go_enter Tryd.func19, Tryd.ntmps19
  go_wp2
  have hxD := hbx.drew
  have haD := (ha.mono hbx.below).drew
  have KR : Hid (∀ W, Below (w.alloc (.cells #[.bool neg, .slice a n cap] 25)).drew.heap.size (w.alloc (.cells #[.bool neg, .slice a n cap] 25)).drew W → W.cell? ⟨w.heap.size, 0, none⟩ = some (.bool neg) ∧ W.cell? ⟨w.heap.size, 1, none⟩ = some (.slice a n cap)) := fun W h => ⟨(hxD.mono h).cell' 0 0 _ _ rfl rfl, (hxD.mono h).cell' 0 1 _ _ rfl rfl⟩
  refine wp_region_layE [(11, 7), (11, 8)] 11 [(true, 0), (true, 1), (true, 2), (false, 3), (false, 4), (true, 5), (true, 6), (true, 7), (true, 8)] [⟨9, 5, #[.bool false, .slice none 0 0], 25⟩, ⟨10, 6, #[.bool false, .slice none 0 0], 25⟩] (by kernel_rfl) (by kernel_rfl) (by kernel_rfl) (fun x hx o ho ρ W => ?_) (fun v0 hv0 => ?_)
  · simp only [List.mem_cons, List.not_mem_nil, or_false] at hx
    rcases hx with rfl | rfl
    all_goals (obtain rfl := Option.some.inj ho; go_simp)
  simp only [pick, List.getElem?_cons_succ, List.getElem?_cons_zero]
  iterate 3
    (refine heldR_quiet (v := ?_) (by rfl) ?_ ?_
     rotate_left
     · intro W hW; obtain ⟨d0, d1⟩ := KR.out W hW; go_simp; (try with_reducible rfl)
     try simp only [Act.put, List.setIfInBounds_toArray, List.set_cons_zero, List.set_cons_succ])
  refine heldR_loud (fun K' hK => ?_)
  go_simp
  refine (whole_Of_nat p v0 (by omega)).mono ?_
  rintro e vA ⟨oa, on, rfl, hsO, hbA, _⟩
  refine hK.out _ _ (hbA) (fun v1 hv1 => ?_)
  clear hK K'
  have rv1 := (hv0.tr hbA).tr hv1
  have hsO1 := hsO.mono hv1
  rw [limbs_lim (by omega), lim_one hp0 hp] at hsO1
  try simp only [Act.put, List.setIfInBounds_toArray, List.set_cons_zero, List.set_cons_succ]
  refine heldR_loud (fun K' hK => ?_)
  go_simp
  refine (whole_DivMod1 neg a n cap la oa on on p v1 (haD.mono rv1) hsO1 hn ca hp0 hp).mono ?_
  rw [← HR.out]
  rintro e vB ⟨qn, Q, qa, qN, qc, ra, rN, rc, rfl, hsQ, hsR, hbB, _, _⟩
  refine hK.out _ _ (hbB) (fun v2 hv2 => ?_)
  clear hK K'
  have rv2 := (rv1.tr hbB).tr hv2
  have hsQ2 := hsQ.mono hv2
  have hsR2 := hsR.mono hv2
  try simp only [Act.put, List.setIfInBounds_toArray, List.set_cons_zero, List.set_cons_succ]
  iterate 4
    (refine heldR_quiet (v := ?_) (by rfl) ?_ ?_
     rotate_left
     · intro W hW; obtain ⟨d0, d1⟩ := KR.out W hW; go_simp; (try with_reducible rfl)
     try simp only [Act.put, List.setIfInBounds_toArray, List.set_cons_zero, List.set_cons_succ])
  refine heldR_nil ?_
  intro bl wz hRz hSz hGz
  obtain ⟨b8, b9, hact, hne89, hb8, hb9, ho8, ho9⟩ := good2 (by decide) hSz hGz
  have hne98 : b9 ≠ b8 := fun e => hne89 e.symm
  rw [hact]
  have rvz := rv2.tr hRz
  have hsRz := hsR2.mono hRz
  have of8 := off_newI ho8 hsRz
  have of9 := off_newI ho9 hsRz
  have xb8 := box_of_obj ho8
  have xb9 := box_of_obj ho9
  have g80 := xb8.cell 0 _ rfl
  have g81 := xb8.cell 1 _ rfl
  have z80 := xb8.frozen 0
  have z81 := xb8.frozen 1
  have g90 := xb9.cell 0 _ rfl
  have g91 := xb9.cell 1 _ rfl
  have z90 := xb9.frozen 0
  have z91 := xb9.frozen 1
  have hbz : Below w.heap.size w wz := (hxD.mono rvz).below
  have hs8 : w.heap.size ≤ b8 := Nat.le_trans (Nat.le_trans (Nat.le_succ _) hxD.size) hb8
  have hs9 : w.heap.size ≤ b9 := Nat.le_trans (Nat.le_trans (Nat.le_succ _) hxD.size) hb9
  simp only [List.drop_succ_cons, List.drop_zero]
  (try simp only [Act.put, List.setIfInBounds_toArray, List.set_cons_zero, List.set_cons_succ])
  go_wp2
  refine NoPanic.normal ?_
  obtain ⟨WE, hWE⟩ : ∃ WE, WE = ((((wz.setCell ⟨b8, 0, none⟩ (.bool qn)).setCell ⟨b8, 1, none⟩ (.slice qa qN qc)).setCell ⟨b9, 0, none⟩ (.bool false)).setCell ⟨b9, 1, none⟩ (.slice ra rN rc)) := ⟨_, rfl⟩
  have hBE : Below w.heap.size w WE := by
    rw [hWE]
    exact (((hbz.setCell (p := ⟨b8, 0, none⟩) hs8 _).setCell (p := ⟨b8, 1, none⟩) hs8 _).setCell (p := ⟨b9, 0, none⟩) hs9 _).setCell (p := ⟨b9, 1, none⟩) hs9 _
  have xE : Box WE b9 #[.bool false, .slice ra rN rc] := by rw [hWE]; exact ((xb9.other 0 hne98 _).other 1 hne98 _).put2 _ _
  have sE : Sl WE ra rN rc (lim R) := by rw [hWE]; exact (((hsRz.setCell of8 _).setCell of8 _).setCell of9 _).setCell of9 _
  rw [← hWE]
  clear hWE g80 g81 z80 z81 g90 g91 z90 z91 xb8 xb9 ho8 ho9 of8 of9 hsRz hact hbz
  have e0 := xE.cell 0 _ rfl
  have e1 := xE.cell 1 _ rfl
  have rn1 : rN ≤ 2 := by rw [← sE.len]; exact Nat.le_trans (lim_length_le (k := 1) (by rw [Nat.pow_one]; omega)) (by omega)
  have g3 : IntKind.u32.wrap (R : Int) = (R : Int) := IntWalk.u32_in _ (by omega)
  have HI := whole_Int ra rN rc (lim R) WE sE rn1 (by rw [valN_lim]; omega)
  rw [valN_lim] at HI
  go_wp2_with fail
  refine HI.mono ?_
  clear HI
  rintro e w9 ⟨rfl, hb9'⟩
  go_wp2
  go_ret
  exact ⟨rfl, hBE.trans (hb9'.mono hBE.size)⟩
end Go.Proofs.YtbnjmeeaaieicaaDoor
end
section
open Alg Go Go.RowKit
namespace Alg
/-- the call hands back a whole number of these limbs -/
def RetT2 (neg : Bool) (l : List Nat) (w : World) (e : Ending) (w' : World) : Prop :=
  ∃ a n cap, e = .returned (.agg #[.bool (sg neg n), .slice a n cap]) ∧ Sl w' a n cap l ∧ Below w.heap.size w w' ∧ Prov w [] a n
theorem Sl.cell_take {w W : World} {x : Addr} {n cap : Nat} {l : List Nat} (h : Sl w (some x) n cap l) (hb : Below w.heap.size w W) {k : Nat} (hk : k ≤ n) :
    ∀ (j : Nat) (u : Value), (vals (l.take k))[j]? = some u → W.cell? (x.add j) = some u := by
  intro j u hj
  have hlen := h.len
  have hjk : j < (l.take k).length := by
    rcases Nat.lt_or_ge j (l.take k).length with h1 | h1
    · exact h1
    · rw [List.getElem?_eq_none (by simpa [vals] using h1)] at hj; exact absurd hj (by simp)
  rw [vals_get _ j hjk] at hj
  have hu : Value.int .u32 (nth (l.take k) j : Nat) = u := by simpa using hj
  subst hu
  rw [List.length_take] at hjk
  rw [nth_take, if_pos (by omega)]
  rcases h.rd with h0 | ⟨b, off, ha, hc⟩
  · omega
  · simp only [Option.some.injEq] at ha
    subst ha
    have hcj := hc j (by omega)
    have e : (⟨b, off, none⟩ : Addr).add j = ⟨b, off + j, none⟩ := by
      unfold Addr.add; split
      · rename_i h0; subst h0; rfl
      · rfl
    rw [e]
    exact (hb.cell (p := ⟨b, off + j, none⟩) (cell_lt hcj)).trans hcj
end Alg
namespace Go.Proofs.YtbnjmeeaaieicaaDoor
open Go.RowKit
set_option maxRecDepth 100000 in
set_option maxHeartbeats 1000000 in
theorem ref02_trim_true (x : Addr) (n cap : Nat) (l : List Nat) (w : World) (h : Sl w (some x) n cap l) (hn : n ≤ 1000000000) :
    Calls Tryd.prog 106 #[.bool true, .slice (some x) n cap] w (RetT2 true (trim l) w) := by
  obtain ⟨i0, hi, hz0, hz1, hz2⟩ := info_parts Tryd.infoN
  have hle := h.le
  have hcap := h.cap
  have hbx := boxes1 w #[.bool false, .slice none 0 0] 25
  go_enter Tryd.func106, Tryd.ntmps106
  go_wp2
  go_loop [5] (fun v => ∃ k : Nat, v = .int .i64 k ∧ k ≤ n ∧ Hid (∀ i, k ≤ i → i < n → nth l i = 0)) (fun v => (intOf v).toNat)
  case atStart => exact ⟨n, rfl, Nat.le_refl _, fun i h1 h2 => by omega⟩
  case round =>
    obtain ⟨k, rfl, hk, hz⟩ := hrel
    have fin : (k = 0 ∨ nth l (k - 1) ≠ 0) → Hid (l.take k = trim l) := fun hx => trim_nth l n k h.len hk hz.out hx
    by_cases hx : 0 < k ∧ nth l (k - 1) = 0
    · obtain ⟨k0, hx⟩ := hx
      have k0' : (0 : Int) < (k : Int) := by omega
      obtain ⟨j, rfl⟩ : ∃ j, k = j + 1 := ⟨k - 1, by omega⟩
      rw [Nat.add_sub_cancel] at hx
      have ej : ((j + 1 : Nat) : Int) - 1 = (j : Int) := by omega
      obtain ⟨b, off, hax, hc⟩ := h.at (k := j) (by omega)
      simp only [Option.some.injEq] at hax
      subst hax
      have c1 := hc _ hbx.below
      rw [hx] at c1
      have hjn : (j : Int) < (n : Int) := by omega
      have HN : Hid (∀ i, j ≤ i → i < n → nth l i = 0) := fun i h1 h2 => by
        by_cases e : i = j
        · rw [e]; exact hx
        · exact hz.out i (by omega) h2
      clear hc hz fin hx
      go_wp2
      go_round
      case rel => exact ⟨j, by go_num, by omega, HN⟩
      case measure => simp [intOf]
    · have HF := fin (by omega)
      have HL : Hid ((l.take k).length = k) := by show _ = _; rw [List.length_take, h.len]; omega
      have hown : ((w.alloc (.cells #[.bool false, .slice none 0 0] 25)).alloc (.cells #[] 22)).ownsRow (w.heap.size + 1) 22 1 (.slice (some ⟨w.heap.size + 1, 0, none⟩) 0 0) 0 [] := by
        refine ⟨rfl, Or.inr ⟨w.heap.size + 1, 0, #[], rfl, Nat.le_refl _, ?_, Nat.le_refl _, Nat.zero_le _, rfl, rfl⟩⟩
        have e : (w.alloc (.cells #[.bool false, .slice none 0 0] 25)).heap.size = w.heap.size + 1 := World.size_alloc _ _
        show ((w.alloc (.cells #[.bool false, .slice none 0 0] 25)).heap.push _)[w.heap.size + 1]? = _
        rw [← e, Array.getElem?_push_size]
      have HO := Alg.hid hown
      have HN := Alg.hid (h.cell_take (hbx.below.alloc hbx.below.size (.cells #[] 22)) hk)
      have H1 := Alg.hid (vals_one (l.take k))
      have HV : Hid ((vals (l.take k)).length = k * 1) := by show _ = _; simp only [vals, List.length_map, HL.out]; omega
      have q1 : 0 + k ≤ maxLen := by unfold maxLen; omega
      have q2 : (0 + k) * 4 ≤ 140737488355328 := by omega
      clear hown fin hz
      have hxa := hbx.alloc_any (.cells #[] 22)
      by_cases k0 : k = 0
      · subst k0
        clear hx
        go_wp2
        (try simp only [Exit.inBlock, Exit.then])
        refine bodyPost_ret (v := .agg #[.bool false, .slice (some ⟨w.heap.size + 1, 0, none⟩) 0 0]) (by simp [results, Tryd.results106, go_sem]) rfl ?_
        have e1 : trim l = [] := by rw [← HF.out, List.take_zero]
        rw [e1]
        exact ⟨_, 0, 0, by rw [sg_t0], Sl.of_nil _ _ _ (by omega), balloc (balloc (Below.refl _ _) _) _, Prov.empty⟩
      · have k0' : (0 : Int) < (k : Int) := by omega
        have kx : 0 < k := by omega
        obtain ⟨j, hj⟩ : ∃ j, j + 1 = k := ⟨k - 1, by omega⟩
        have ej : (k : Int) - 1 = (j : Int) := by omega
        obtain ⟨b, off, hax, hc⟩ := h.at (k := j) (by omega)
        simp only [Option.some.injEq] at hax
        subst hax
        have hcx := hc _ hbx.below
        have hnz : ((nth l j : Int) == 0) = false := by
          have : nth l (k - 1) ≠ 0 := by omega
          rw [show k - 1 = j by omega] at this
          simp; omega
        have hjn : (j : Int) < (n : Int) := by omega
        have hkn : (k : Int) ≤ (n : Int) := by omega
        have HJ := Alg.hid hj
        clear hx hc k0 hj
        go_wp2_with (at_builtin; refine wpList_append_lies _ rfl _ _ 23 rfl (w.heap.size + 1) 22 i0 (.int .u32 0) 1 4 Tryd.underlying23 hi hz0 hz1 hz2 rfl Nat.one_pos _ 0 [] rfl HO.out ⟨b, off, none⟩ k cap (vals (l.take k)) rfl HV.out HN.out H1.out kx q1 q2 (by rw [World.size_alloc, World.size_alloc]; omega) (w.heap.size + 1 + 1) (by rw [World.size_alloc, World.size_alloc]) ?_; intro g cg w1 hown1 hgrow hat hlt; have hx9 := hxa.grown hgrow (fun q hq => by (have hq' : some (w.heap.size + 1) = some q := hq); have := Option.some.inj hq'; simp; omega); have e0 : w1.cell? ⟨w.heap.size, 0, none⟩ = some (.bool false) := hx9.cell' 0 0 _ _ rfl rfl; have e2 : w1.cell? ⟨w.heap.size, 1, none⟩ = some (.slice none 0 0) := hx9.cell' 0 1 _ _ rfl rfl; have f0 : w1.frozen? ⟨w.heap.size, 0, none⟩ = false := hx9.frozen' 0 0 (by simp); have f1 : w1.frozen? ⟨w.heap.size, 1, none⟩ = false := hx9.frozen' 0 1 (by simp))
        clear hcx
        (try simp only [Exit.inBlock, Exit.then])
        refine bodyPost_ret (v := .agg #[.bool true, .slice (some ⟨g, 0, none⟩) (0 + k) cg]) (by simp [results, Tryd.results106, go_sem, e0, e2]) rfl ?_
        have hA : Arr w1 22 (w.heap.size + 1) g (0 + k) cg (trim l) := by
          rw [← HF.out]
          exact ⟨by simpa using hown1, fun i => nth_take' l k i h.lt⟩
        have hsp := hA.split
        have hs := hA.sl (by have := hsp.2.2.1; unfold maxLen at this; omega)
        have hof : Off (some ⟨g, 0, none⟩) (0 + k) w.heap.size := Off.fresh (by omega)
        refine ⟨_, 0 + k, _, by rw [sg_t1 (by omega)], (hs.setCell hof _).setCell hof _, (hx9.below.setCell (p := ⟨w.heap.size, 0, none⟩) (by simp) _).setCell (p := ⟨w.heap.size, 1, none⟩) (by simp) _, Or.inr (Or.inr ⟨g, 0, none, rfl, by omega⟩)⟩
set_option maxRecDepth 100000 in
set_option maxHeartbeats 1000000 in
theorem ref02_trim_false (x : Addr) (n cap : Nat) (l : List Nat) (w : World) (h : Sl w (some x) n cap l) (hn : n ≤ 1000000000) :
    Calls Tryd.prog 106 #[.bool false, .slice (some x) n cap] w (RetT2 false (trim l) w) := by
  obtain ⟨i0, hi, hz0, hz1, hz2⟩ := info_parts Tryd.infoN
  have hle := h.le
  have hcap := h.cap
  have hbx := boxes1 w #[.bool false, .slice none 0 0] 25
  go_enter Tryd.func106, Tryd.ntmps106
  go_wp2
  go_loop [5] (fun v => ∃ k : Nat, v = .int .i64 k ∧ k ≤ n ∧ Hid (∀ i, k ≤ i → i < n → nth l i = 0)) (fun v => (intOf v).toNat)
  case atStart => exact ⟨n, rfl, Nat.le_refl _, fun i h1 h2 => by omega⟩
  case round =>
    obtain ⟨k, rfl, hk, hz⟩ := hrel
    have fin : (k = 0 ∨ nth l (k - 1) ≠ 0) → Hid (l.take k = trim l) := fun hx => trim_nth l n k h.len hk hz.out hx
    by_cases hx : 0 < k ∧ nth l (k - 1) = 0
    · obtain ⟨k0, hx⟩ := hx
      have k0' : (0 : Int) < (k : Int) := by omega
      obtain ⟨j, rfl⟩ : ∃ j, k = j + 1 := ⟨k - 1, by omega⟩
      rw [Nat.add_sub_cancel] at hx
      have ej : ((j + 1 : Nat) : Int) - 1 = (j : Int) := by omega
      obtain ⟨b, off, hax, hc⟩ := h.at (k := j) (by omega)
      simp only [Option.some.injEq] at hax
      subst hax
      have c1 := hc _ hbx.below
      rw [hx] at c1
      have hjn : (j : Int) < (n : Int) := by omega
      have HN : Hid (∀ i, j ≤ i → i < n → nth l i = 0) := fun i h1 h2 => by
        by_cases e : i = j
        · rw [e]; exact hx
        · exact hz.out i (by omega) h2
      clear hc hz fin hx
      go_wp2
      go_round
      case rel => exact ⟨j, by go_num, by omega, HN⟩
      case measure => simp [intOf]
    · have HF := fin (by omega)
      have HL : Hid ((l.take k).length = k) := by show _ = _; rw [List.length_take, h.len]; omega
      have hown : ((w.alloc (.cells #[.bool false, .slice none 0 0] 25)).alloc (.cells #[] 22)).ownsRow (w.heap.size + 1) 22 1 (.slice (some ⟨w.heap.size + 1, 0, none⟩) 0 0) 0 [] := by
        refine ⟨rfl, Or.inr ⟨w.heap.size + 1, 0, #[], rfl, Nat.le_refl _, ?_, Nat.le_refl _, Nat.zero_le _, rfl, rfl⟩⟩
        have e : (w.alloc (.cells #[.bool false, .slice none 0 0] 25)).heap.size = w.heap.size + 1 := World.size_alloc _ _
        show ((w.alloc (.cells #[.bool false, .slice none 0 0] 25)).heap.push _)[w.heap.size + 1]? = _
        rw [← e, Array.getElem?_push_size]
      have HO := Alg.hid hown
      have HN := Alg.hid (h.cell_take (hbx.below.alloc hbx.below.size (.cells #[] 22)) hk)
      have H1 := Alg.hid (vals_one (l.take k))
      have HV : Hid ((vals (l.take k)).length = k * 1) := by show _ = _; simp only [vals, List.length_map, HL.out]; omega
      have q1 : 0 + k ≤ maxLen := by unfold maxLen; omega
      have q2 : (0 + k) * 4 ≤ 140737488355328 := by omega
      clear hown fin hz
      have hxa := hbx.alloc_any (.cells #[] 22)
      by_cases k0 : k = 0
      · subst k0
        clear hx
        go_wp2
        (try simp only [Exit.inBlock, Exit.then])
        refine bodyPost_ret (v := .agg #[.bool false, .slice (some ⟨w.heap.size + 1, 0, none⟩) 0 0]) (by simp [results, Tryd.results106, go_sem]) rfl ?_
        have e1 : trim l = [] := by rw [← HF.out, List.take_zero]
        rw [e1]
        exact ⟨_, 0, 0, rfl, Sl.of_nil _ _ _ (by omega), balloc (balloc (Below.refl _ _) _) _, Prov.empty⟩
      · have k0' : (0 : Int) < (k : Int) := by omega
        have kx : 0 < k := by omega
        obtain ⟨j, hj⟩ : ∃ j, j + 1 = k := ⟨k - 1, by omega⟩
        have ej : (k : Int) - 1 = (j : Int) := by omega
        obtain ⟨b, off, hax, hc⟩ := h.at (k := j) (by omega)
        simp only [Option.some.injEq] at hax
        subst hax
        have hcx := hc _ hbx.below
        have hnz : ((nth l j : Int) == 0) = false := by
          have : nth l (k - 1) ≠ 0 := by omega
          rw [show k - 1 = j by omega] at this
          simp; omega
        have hjn : (j : Int) < (n : Int) := by omega
        have hkn : (k : Int) ≤ (n : Int) := by omega
        have HJ := Alg.hid hj
        clear hx hc k0 hj
        go_wp2_with (at_builtin; refine wpList_append_lies _ rfl _ _ 23 rfl (w.heap.size + 1) 22 i0 (.int .u32 0) 1 4 Tryd.underlying23 hi hz0 hz1 hz2 rfl Nat.one_pos _ 0 [] rfl HO.out ⟨b, off, none⟩ k cap (vals (l.take k)) rfl HV.out HN.out H1.out kx q1 q2 (by rw [World.size_alloc, World.size_alloc]; omega) (w.heap.size + 1 + 1) (by rw [World.size_alloc, World.size_alloc]) ?_; intro g cg w1 hown1 hgrow hat hlt; have hx9 := hxa.grown hgrow (fun q hq => by (have hq' : some (w.heap.size + 1) = some q := hq); have := Option.some.inj hq'; simp; omega); have e0 : w1.cell? ⟨w.heap.size, 0, none⟩ = some (.bool false) := hx9.cell' 0 0 _ _ rfl rfl; have e2 : w1.cell? ⟨w.heap.size, 1, none⟩ = some (.slice none 0 0) := hx9.cell' 0 1 _ _ rfl rfl; have f0 : w1.frozen? ⟨w.heap.size, 0, none⟩ = false := hx9.frozen' 0 0 (by simp); have f1 : w1.frozen? ⟨w.heap.size, 1, none⟩ = false := hx9.frozen' 0 1 (by simp))
        clear hcx
        (try simp only [Exit.inBlock, Exit.then])
        refine bodyPost_ret (v := .agg #[.bool false, .slice (some ⟨g, 0, none⟩) (0 + k) cg]) (by simp [results, Tryd.results106, go_sem, e0, e2]) rfl ?_
        have hA : Arr w1 22 (w.heap.size + 1) g (0 + k) cg (trim l) := by
          rw [← HF.out]
          exact ⟨by simpa using hown1, fun i => nth_take' l k i h.lt⟩
        have hsp := hA.split
        have hs := hA.sl (by have := hsp.2.2.1; unfold maxLen at this; omega)
        have hof : Off (some ⟨g, 0, none⟩) (0 + k) w.heap.size := Off.fresh (by omega)
        refine ⟨_, 0 + k, _, rfl, (hs.setCell hof _).setCell hof _, (hx9.below.setCell (p := ⟨w.heap.size, 0, none⟩) (by simp) _).setCell (p := ⟨w.heap.size, 1, none⟩) (by simp) _, Or.inr (Or.inr ⟨g, 0, none, rfl, by omega⟩)⟩
theorem ref02_trim_some (neg : Bool) (x : Addr) (n cap : Nat) (l : List Nat) (w : World) (h : Sl w (some x) n cap l) (hn : n ≤ 1000000000) :
    Calls Tryd.prog 106 #[.bool neg, .slice (some x) n cap] w (RetT2 neg (trim l) w) := by
  cases neg with
  | false => exact ref02_trim_false x n cap l w h hn
  | true => exact ref02_trim_true x n cap l w h hn
end Go.Proofs.YtbnjmeeaaieicaaDoor
end
