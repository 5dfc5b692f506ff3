/- Contracts of the reference's Add of whole numbers. -/
import Derived.Test.YtbnjmeeaaieicaaDoorW85
import Derived.Deep.RegionHeld3
open Alg Go Go.RowKit
namespace Go.Proofs.YtbnjmeeaaieicaaDoor
open Go.RowKit
set_option maxRecDepth 100000 in
set_option maxHeartbeats 2000000 in
theorem ref02_Add_same (neg : Bool) (a : Option Addr) (n cap : Nat) (la : List Nat) (b : Option Addr) (m cap' : Nat) (lb : List Nat) (w : World) (ha : Sl w a n cap la) (hb : Sl w b m cap' lb) (hn : n ≤ 1000000) (hm : m ≤ 1000000) :
    Calls Tryd.prog 150 #[.agg #[.bool neg, .slice a n cap], .agg #[.bool neg, .slice b m cap']] w (RetT2 neg (lim (valN la + valN lb)) w) := by
  have hbx := boxes3 w #[.bool neg, .slice a n cap] #[.bool neg, .slice b m cap'] #[.bool false, .slice none 0 0] 25 25 25
  have hbx2 := hbx.less 2
  have d00 := hbx.cell' 0 0 _ _ rfl rfl
  have d01 := hbx.cell' 0 1 _ _ rfl rfl
  have d10 := hbx.cell' 1 0 _ _ rfl rfl
  have d11 := hbx.cell' 1 1 _ _ rfl rfl
  have K : Hid (∀ W, Boxes w W [#[.bool neg, .slice a n cap], #[.bool neg, .slice b m cap']] → W.cell? ⟨w.heap.size, 0, none⟩ = some (.bool neg) ∧ W.cell? ⟨w.heap.size, 1, none⟩ = some (.slice a n cap) ∧ W.cell? ⟨w.heap.size + 1, 0, none⟩ = some (.bool neg) ∧ W.cell? ⟨w.heap.size + 1, 1, none⟩ = some (.slice b m cap') ∧ Boxes w W [#[.bool neg, .slice a n cap], #[.bool neg, .slice b m cap']]) :=
    fun W h => ⟨h.cell' 0 0 _ _ rfl rfl, h.cell' 0 1 _ _ rfl rfl, h.cell' 1 0 _ _ rfl rfl, h.cell' 1 1 _ _ rfl rfl, h⟩
  go_enter Tryd.func150, Tryd.ntmps150
  go_wp2
  go_region_held3 (fun W => W.cell? ⟨w.heap.size, 0, none⟩ = some (.bool neg) ∧ W.cell? ⟨w.heap.size, 1, none⟩ = some (.slice a n cap) ∧ W.cell? ⟨w.heap.size + 1, 0, none⟩ = some (.bool neg) ∧ W.cell? ⟨w.heap.size + 1, 1, none⟩ = some (.slice b m cap') ∧ Boxes w W [#[.bool neg, .slice a n cap], #[.bool neg, .slice b m cap']])
    (first | (exact K.out _ (by assumption)) | (exact K.out _ hbx2.drew) | (exact K.out _ (Boxes.setCell (Boxes.setCell (by assumption) (by simp) _) (by simp) _)))
    (first
      | (go_at_call 152; refine (ref02_plus a n cap la b m cap' lb _ ((ha.mono hbx.below).drew) ((hb.mono hbx.below).drew) hn hm).mono ?_; rintro e w1 ⟨a1, n1, c1, l1, rfl, hs1, hv1, hn1, hb1, hp1⟩; have hx1 := hbx.drew.mono hb1; have hx1' := hx1.less 2)
      | (go_at_call 106; refine (ref02_trim neg a1 n1 c1 l1 _ hs1 hn1).mono ?_; rw [hv1]; rintro e w2 ⟨a', n', c2, rfl, hs', hb', hpv⟩; have hx2 := hx1.mono hb'; have hx2' := hx2.less 2; have e0 : w2.cell? ⟨w.heap.size + 1 + 1, 0, none⟩ = some (.bool false) := hx2.cell' 2 0 _ _ rfl rfl; have e1 : w2.cell? ⟨w.heap.size + 1 + 1, 1, none⟩ = some (.slice none 0 0) := hx2.cell' 2 1 _ _ rfl rfl; have e2 : w2.frozen? ⟨w.heap.size + 1 + 1, 0, none⟩ = false := hx2.frozen' 2 0 (by simp); have e3 : w2.frozen? ⟨w.heap.size + 1 + 1, 1, none⟩ = false := hx2.frozen' 2 1 (by simp)))
  all_goals
    go_wp2
    (try simp only [Exit.inBlock, Exit.then])
    refine bodyPost_ret (v := .agg #[.bool (sg neg n'), .slice a' n' c2]) (by simp [results, Tryd.results150, go_sem, e0, e1]) rfl ?_
    have hsz1 : w.heap.size + 3 ≤ w1.heap.size := hx1.size
    have hof : Off a' n' (w.heap.size + 1 + 1) := hpv.off0 (by omega)
    exact ⟨_, _, _, rfl, (hs'.setCell hof _).setCell hof _, ((hx2.below.setCell (p := ⟨w.heap.size + 1 + 1, 0, none⟩) (by simp; omega) _).setCell (p := ⟨w.heap.size + 1 + 1, 1, none⟩) (by simp; omega) _), hpv.mono hx1.below.size⟩
set_option maxRecDepth 100000 in
set_option maxHeartbeats 2000000 in
theorem ref02_Add_lt_f (a : Option Addr) (n cap : Nat) (la : List Nat) (b : Option Addr) (m cap' : Nat) (lb : List Nat) (w : World) (ha : Sl w a n cap la) (hb : Sl w b m cap' lb) (hm : m ≤ 1000000) (ca : Canon 4294967296 la) (cb : Canon 4294967296 lb) (hlt : valN la < valN lb) (hnm : n ≤ m) :
    Calls Tryd.prog 150 #[.agg #[.bool false, .slice a n cap], .agg #[.bool true, .slice b m cap']] w (RetT2 true (lim (valN lb - valN la)) w) := by
  have hbx := boxes3 w #[.bool false, .slice a n cap] #[.bool true, .slice b m cap'] #[.bool false, .slice none 0 0] 25 25 25
  have hbx2 := hbx.less 2
  have d00 := hbx.cell' 0 0 _ _ rfl rfl
  have d01 := hbx.cell' 0 1 _ _ rfl rfl
  have d10 := hbx.cell' 1 0 _ _ rfl rfl
  have d11 := hbx.cell' 1 1 _ _ rfl rfl
  have K : Hid (∀ W, Boxes w W [#[.bool false, .slice a n cap], #[.bool true, .slice b m cap']] → W.cell? ⟨w.heap.size, 0, none⟩ = some (.bool false) ∧ W.cell? ⟨w.heap.size, 1, none⟩ = some (.slice a n cap) ∧ W.cell? ⟨w.heap.size + 1, 0, none⟩ = some (.bool true) ∧ W.cell? ⟨w.heap.size + 1, 1, none⟩ = some (.slice b m cap') ∧ Boxes w W [#[.bool false, .slice a n cap], #[.bool true, .slice b m cap']]) :=
    fun W h => ⟨h.cell' 0 0 _ _ rfl rfl, h.cell' 0 1 _ _ rfl rfl, h.cell' 1 0 _ _ rfl rfl, h.cell' 1 1 _ _ rfl rfl, h⟩
  obtain ⟨C, hC⟩ : ∃ C, C = cmpN (valN la) (valN lb) := ⟨_, rfl⟩
  have hC0 : C < 0 := by rw [hC, cmpN_lt hlt]; decide
  have HC := Alg.hid hC
  have HLE : Hid (valN la ≤ valN lb) := Nat.le_of_lt hlt
  clear hC hlt
  go_enter Tryd.func150, Tryd.ntmps150
  go_wp2_with fail
  refine (ref02_size a n cap la b m cap' lb _ (ha.mono hbx.below) (hb.mono hbx.below) ca cb).mono ?_
  rw [← HC.out]
  rintro e ws ⟨rfl, hbs⟩
  have hbx := hbx.mono hbs
  have hbx2 := hbx.less 2
  go_wp2
  go_region_held3 (fun W => W.cell? ⟨w.heap.size, 0, none⟩ = some (.bool false) ∧ W.cell? ⟨w.heap.size, 1, none⟩ = some (.slice a n cap) ∧ W.cell? ⟨w.heap.size + 1, 0, none⟩ = some (.bool true) ∧ W.cell? ⟨w.heap.size + 1, 1, none⟩ = some (.slice b m cap') ∧ Boxes w W [#[.bool false, .slice a n cap], #[.bool true, .slice b m cap']])
    (first | (exact K.out _ (by assumption)) | (exact K.out _ hbx2.drew) | (exact K.out _ (Boxes.setCell (Boxes.setCell (by assumption) (by simp) _) (by simp) _)))
    (first
      | (go_at_call 154; refine (ref02_less b m cap' lb a n cap la _ ((hb.mono hbx.below).drew) ((ha.mono hbx.below).drew) hm hnm HLE.out).mono ?_; rintro e w1 ⟨a1, n1, c1, l1, rfl, hs1, hv1, hn1, hb1, hp1⟩; have hx1 := hbx.drew.mono hb1; have hx1' := hx1.less 2)
      | (go_at_call 106; refine (ref02_trim true a1 n1 c1 l1 _ hs1 hn1).mono ?_; rw [hv1]; rintro e w2 ⟨a', n', c2, rfl, hs', hb', hpv⟩; have hx2 := hx1.mono hb'; have hx2' := hx2.less 2; have e0 : w2.cell? ⟨w.heap.size + 1 + 1, 0, none⟩ = some (.bool false) := hx2.cell' 2 0 _ _ rfl rfl; have e1 : w2.cell? ⟨w.heap.size + 1 + 1, 1, none⟩ = some (.slice none 0 0) := hx2.cell' 2 1 _ _ rfl rfl; have e2 : w2.frozen? ⟨w.heap.size + 1 + 1, 0, none⟩ = false := hx2.frozen' 2 0 (by simp); have e3 : w2.frozen? ⟨w.heap.size + 1 + 1, 1, none⟩ = false := hx2.frozen' 2 1 (by simp)))
  all_goals
    go_wp2
    (try simp only [Exit.inBlock, Exit.then])
    refine bodyPost_ret (v := .agg #[.bool (sg true n'), .slice a' n' c2]) (by simp [results, Tryd.results150, go_sem, e0, e1]) rfl ?_
    have hsz1 : w.heap.size + 3 ≤ w1.heap.size := hx1.size
    have hof : Off a' n' (w.heap.size + 1 + 1) := hpv.off0 (by omega)
    exact ⟨_, _, _, rfl, (hs'.setCell hof _).setCell hof _, ((hx2.below.setCell (p := ⟨w.heap.size + 1 + 1, 0, none⟩) (by simp; omega) _).setCell (p := ⟨w.heap.size + 1 + 1, 1, none⟩) (by simp; omega) _), hpv.mono hx1.below.size⟩
set_option maxRecDepth 100000 in
set_option maxHeartbeats 2000000 in
theorem ref02_Add_ge_f (a : Option Addr) (n cap : Nat) (la : List Nat) (b : Option Addr) (m cap' : Nat) (lb : List Nat) (w : World) (ha : Sl w a n cap la) (hb : Sl w b m cap' lb) (hn : n ≤ 1000000) (ca : Canon 4294967296 la) (cb : Canon 4294967296 lb) (hle : valN lb ≤ valN la) (hmn : m ≤ n) :
    Calls Tryd.prog 150 #[.agg #[.bool false, .slice a n cap], .agg #[.bool true, .slice b m cap']] w (RetT2 false (lim (valN la - valN lb)) w) := by
  have hbx := boxes3 w #[.bool false, .slice a n cap] #[.bool true, .slice b m cap'] #[.bool false, .slice none 0 0] 25 25 25
  have hbx2 := hbx.less 2
  have d00 := hbx.cell' 0 0 _ _ rfl rfl
  have d01 := hbx.cell' 0 1 _ _ rfl rfl
  have d10 := hbx.cell' 1 0 _ _ rfl rfl
  have d11 := hbx.cell' 1 1 _ _ rfl rfl
  have K : Hid (∀ W, Boxes w W [#[.bool false, .slice a n cap], #[.bool true, .slice b m cap']] → W.cell? ⟨w.heap.size, 0, none⟩ = some (.bool false) ∧ W.cell? ⟨w.heap.size, 1, none⟩ = some (.slice a n cap) ∧ W.cell? ⟨w.heap.size + 1, 0, none⟩ = some (.bool true) ∧ W.cell? ⟨w.heap.size + 1, 1, none⟩ = some (.slice b m cap') ∧ Boxes w W [#[.bool false, .slice a n cap], #[.bool true, .slice b m cap']]) :=
    fun W h => ⟨h.cell' 0 0 _ _ rfl rfl, h.cell' 0 1 _ _ rfl rfl, h.cell' 1 0 _ _ rfl rfl, h.cell' 1 1 _ _ rfl rfl, h⟩
  obtain ⟨C, hC⟩ : ∃ C, C = cmpN (valN la) (valN lb) := ⟨_, rfl⟩
  have hC0 : ¬ C < 0 := by rw [hC]; unfold cmpN; rw [if_neg (by omega)]; split <;> omega
  have HC := Alg.hid hC
  have HLE := Alg.hid hle
  clear hC hle
  go_enter Tryd.func150, Tryd.ntmps150
  go_wp2_with fail
  refine (ref02_size a n cap la b m cap' lb _ (ha.mono hbx.below) (hb.mono hbx.below) ca cb).mono ?_
  rw [← HC.out]
  rintro e ws ⟨rfl, hbs⟩
  have hbx := hbx.mono hbs
  have hbx2 := hbx.less 2
  go_wp2
  go_region_held3 (fun W => W.cell? ⟨w.heap.size, 0, none⟩ = some (.bool false) ∧ W.cell? ⟨w.heap.size, 1, none⟩ = some (.slice a n cap) ∧ W.cell? ⟨w.heap.size + 1, 0, none⟩ = some (.bool true) ∧ W.cell? ⟨w.heap.size + 1, 1, none⟩ = some (.slice b m cap') ∧ Boxes w W [#[.bool false, .slice a n cap], #[.bool true, .slice b m cap']])
    (first | (exact K.out _ (by assumption)) | (exact K.out _ hbx2.drew) | (exact K.out _ (Boxes.setCell (Boxes.setCell (by assumption) (by simp) _) (by simp) _)))
    (first
      | (go_at_call 154; refine (ref02_less a n cap la b m cap' lb _ ((ha.mono hbx.below).drew) ((hb.mono hbx.below).drew) hn hmn HLE.out).mono ?_; rintro e w1 ⟨a1, n1, c1, l1, rfl, hs1, hv1, hn1, hb1, hp1⟩; have hx1 := hbx.drew.mono hb1; have hx1' := hx1.less 2)
      | (go_at_call 106; refine (ref02_trim false a1 n1 c1 l1 _ hs1 hn1).mono ?_; rw [hv1]; rintro e w2 ⟨a', n', c2, rfl, hs', hb', hpv⟩; have hx2 := hx1.mono hb'; have hx2' := hx2.less 2; have e0 : w2.cell? ⟨w.heap.size + 1 + 1, 0, none⟩ = some (.bool false) := hx2.cell' 2 0 _ _ rfl rfl; have e1 : w2.cell? ⟨w.heap.size + 1 + 1, 1, none⟩ = some (.slice none 0 0) := hx2.cell' 2 1 _ _ rfl rfl; have e2 : w2.frozen? ⟨w.heap.size + 1 + 1, 0, none⟩ = false := hx2.frozen' 2 0 (by simp); have e3 : w2.frozen? ⟨w.heap.size + 1 + 1, 1, none⟩ = false := hx2.frozen' 2 1 (by simp)))
  all_goals
    go_wp2
    (try simp only [Exit.inBlock, Exit.then])
    refine bodyPost_ret (v := .agg #[.bool (sg false n'), .slice a' n' c2]) (by simp [results, Tryd.results150, go_sem, e0, e1]) rfl ?_
    have hsz1 : w.heap.size + 3 ≤ w1.heap.size := hx1.size
    have hof : Off a' n' (w.heap.size + 1 + 1) := hpv.off0 (by omega)
    exact ⟨_, _, _, rfl, (hs'.setCell hof _).setCell hof _, ((hx2.below.setCell (p := ⟨w.heap.size + 1 + 1, 0, none⟩) (by simp; omega) _).setCell (p := ⟨w.heap.size + 1 + 1, 1, none⟩) (by simp; omega) _), hpv.mono hx1.below.size⟩
set_option maxRecDepth 100000 in
set_option maxHeartbeats 2000000 in
theorem ref02_Add_lt_t (a : Option Addr) (n cap : Nat) (la : List Nat) (b : Option Addr) (m cap' : Nat) (lb : List Nat) (w : World) (ha : Sl w a n cap la) (hb : Sl w b m cap' lb) (hm : m ≤ 1000000) (ca : Canon 4294967296 la) (cb : Canon 4294967296 lb) (hlt : valN la < valN lb) (hnm : n ≤ m) :
    Calls Tryd.prog 150 #[.agg #[.bool true, .slice a n cap], .agg #[.bool false, .slice b m cap']] w (RetT2 false (lim (valN lb - valN la)) w) := by
  have hbx := boxes3 w #[.bool true, .slice a n cap] #[.bool false, .slice b m cap'] #[.bool false, .slice none 0 0] 25 25 25
  have hbx2 := hbx.less 2
  have d00 := hbx.cell' 0 0 _ _ rfl rfl
  have d01 := hbx.cell' 0 1 _ _ rfl rfl
  have d10 := hbx.cell' 1 0 _ _ rfl rfl
  have d11 := hbx.cell' 1 1 _ _ rfl rfl
  have K : Hid (∀ W, Boxes w W [#[.bool true, .slice a n cap], #[.bool false, .slice b m cap']] → W.cell? ⟨w.heap.size, 0, none⟩ = some (.bool true) ∧ W.cell? ⟨w.heap.size, 1, none⟩ = some (.slice a n cap) ∧ W.cell? ⟨w.heap.size + 1, 0, none⟩ = some (.bool false) ∧ W.cell? ⟨w.heap.size + 1, 1, none⟩ = some (.slice b m cap') ∧ Boxes w W [#[.bool true, .slice a n cap], #[.bool false, .slice b m cap']]) :=
    fun W h => ⟨h.cell' 0 0 _ _ rfl rfl, h.cell' 0 1 _ _ rfl rfl, h.cell' 1 0 _ _ rfl rfl, h.cell' 1 1 _ _ rfl rfl, h⟩
  obtain ⟨C, hC⟩ : ∃ C, C = cmpN (valN la) (valN lb) := ⟨_, rfl⟩
  have hC0 : C < 0 := by rw [hC, cmpN_lt hlt]; decide
  have HC := Alg.hid hC
  have HLE : Hid (valN la ≤ valN lb) := Nat.le_of_lt hlt
  clear hC hlt
  go_enter Tryd.func150, Tryd.ntmps150
  go_wp2_with fail
  refine (ref02_size a n cap la b m cap' lb _ (ha.mono hbx.below) (hb.mono hbx.below) ca cb).mono ?_
  rw [← HC.out]
  rintro e ws ⟨rfl, hbs⟩
  have hbx := hbx.mono hbs
  have hbx2 := hbx.less 2
  go_wp2
  go_region_held3 (fun W => W.cell? ⟨w.heap.size, 0, none⟩ = some (.bool true) ∧ W.cell? ⟨w.heap.size, 1, none⟩ = some (.slice a n cap) ∧ W.cell? ⟨w.heap.size + 1, 0, none⟩ = some (.bool false) ∧ W.cell? ⟨w.heap.size + 1, 1, none⟩ = some (.slice b m cap') ∧ Boxes w W [#[.bool true, .slice a n cap], #[.bool false, .slice b m cap']])
    (first | (exact K.out _ (by assumption)) | (exact K.out _ hbx2.drew) | (exact K.out _ (Boxes.setCell (Boxes.setCell (by assumption) (by simp) _) (by simp) _)))
    (first
      | (go_at_call 154; refine (ref02_less b m cap' lb a n cap la _ ((hb.mono hbx.below).drew) ((ha.mono hbx.below).drew) hm hnm HLE.out).mono ?_; rintro e w1 ⟨a1, n1, c1, l1, rfl, hs1, hv1, hn1, hb1, hp1⟩; have hx1 := hbx.drew.mono hb1; have hx1' := hx1.less 2)
      | (go_at_call 106; refine (ref02_trim false a1 n1 c1 l1 _ hs1 hn1).mono ?_; rw [hv1]; rintro e w2 ⟨a', n', c2, rfl, hs', hb', hpv⟩; have hx2 := hx1.mono hb'; have hx2' := hx2.less 2; have e0 : w2.cell? ⟨w.heap.size + 1 + 1, 0, none⟩ = some (.bool false) := hx2.cell' 2 0 _ _ rfl rfl; have e1 : w2.cell? ⟨w.heap.size + 1 + 1, 1, none⟩ = some (.slice none 0 0) := hx2.cell' 2 1 _ _ rfl rfl; have e2 : w2.frozen? ⟨w.heap.size + 1 + 1, 0, none⟩ = false := hx2.frozen' 2 0 (by simp); have e3 : w2.frozen? ⟨w.heap.size + 1 + 1, 1, none⟩ = false := hx2.frozen' 2 1 (by simp)))
  all_goals
    go_wp2
    (try simp only [Exit.inBlock, Exit.then])
    refine bodyPost_ret (v := .agg #[.bool (sg false n'), .slice a' n' c2]) (by simp [results, Tryd.results150, go_sem, e0, e1]) rfl ?_
    have hsz1 : w.heap.size + 3 ≤ w1.heap.size := hx1.size
    have hof : Off a' n' (w.heap.size + 1 + 1) := hpv.off0 (by omega)
    exact ⟨_, _, _, rfl, (hs'.setCell hof _).setCell hof _, ((hx2.below.setCell (p := ⟨w.heap.size + 1 + 1, 0, none⟩) (by simp; omega) _).setCell (p := ⟨w.heap.size + 1 + 1, 1, none⟩) (by simp; omega) _), hpv.mono hx1.below.size⟩
set_option maxRecDepth 100000 in
set_option maxHeartbeats 2000000 in
theorem ref02_Add_ge_t (a : Option Addr) (n cap : Nat) (la : List Nat) (b : Option Addr) (m cap' : Nat) (lb : List Nat) (w : World) (ha : Sl w a n cap la) (hb : Sl w b m cap' lb) (hn : n ≤ 1000000) (ca : Canon 4294967296 la) (cb : Canon 4294967296 lb) (hle : valN lb ≤ valN la) (hmn : m ≤ n) :
    Calls Tryd.prog 150 #[.agg #[.bool true, .slice a n cap], .agg #[.bool false, .slice b m cap']] w (RetT2 true (lim (valN la - valN lb)) w) := by
  have hbx := boxes3 w #[.bool true, .slice a n cap] #[.bool false, .slice b m cap'] #[.bool false, .slice none 0 0] 25 25 25
  have hbx2 := hbx.less 2
  have d00 := hbx.cell' 0 0 _ _ rfl rfl
  have d01 := hbx.cell' 0 1 _ _ rfl rfl
  have d10 := hbx.cell' 1 0 _ _ rfl rfl
  have d11 := hbx.cell' 1 1 _ _ rfl rfl
  have K : Hid (∀ W, Boxes w W [#[.bool true, .slice a n cap], #[.bool false, .slice b m cap']] → W.cell? ⟨w.heap.size, 0, none⟩ = some (.bool true) ∧ W.cell? ⟨w.heap.size, 1, none⟩ = some (.slice a n cap) ∧ W.cell? ⟨w.heap.size + 1, 0, none⟩ = some (.bool false) ∧ W.cell? ⟨w.heap.size + 1, 1, none⟩ = some (.slice b m cap') ∧ Boxes w W [#[.bool true, .slice a n cap], #[.bool false, .slice b m cap']]) :=
    fun W h => ⟨h.cell' 0 0 _ _ rfl rfl, h.cell' 0 1 _ _ rfl rfl, h.cell' 1 0 _ _ rfl rfl, h.cell' 1 1 _ _ rfl rfl, h⟩
  obtain ⟨C, hC⟩ : ∃ C, C = cmpN (valN la) (valN lb) := ⟨_, rfl⟩
  have hC0 : ¬ C < 0 := by rw [hC]; unfold cmpN; rw [if_neg (by omega)]; split <;> omega
  have HC := Alg.hid hC
  have HLE := Alg.hid hle
  clear hC hle
  go_enter Tryd.func150, Tryd.ntmps150
  go_wp2_with fail
  refine (ref02_size a n cap la b m cap' lb _ (ha.mono hbx.below) (hb.mono hbx.below) ca cb).mono ?_
  rw [← HC.out]
  rintro e ws ⟨rfl, hbs⟩
  have hbx := hbx.mono hbs
  have hbx2 := hbx.less 2
  go_wp2
  go_region_held3 (fun W => W.cell? ⟨w.heap.size, 0, none⟩ = some (.bool true) ∧ W.cell? ⟨w.heap.size, 1, none⟩ = some (.slice a n cap) ∧ W.cell? ⟨w.heap.size + 1, 0, none⟩ = some (.bool false) ∧ W.cell? ⟨w.heap.size + 1, 1, none⟩ = some (.slice b m cap') ∧ Boxes w W [#[.bool true, .slice a n cap], #[.bool false, .slice b m cap']])
    (first | (exact K.out _ (by assumption)) | (exact K.out _ hbx2.drew) | (exact K.out _ (Boxes.setCell (Boxes.setCell (by assumption) (by simp) _) (by simp) _)))
    (first
      | (go_at_call 154; refine (ref02_less a n cap la b m cap' lb _ ((ha.mono hbx.below).drew) ((hb.mono hbx.below).drew) hn hmn HLE.out).mono ?_; rintro e w1 ⟨a1, n1, c1, l1, rfl, hs1, hv1, hn1, hb1, hp1⟩; have hx1 := hbx.drew.mono hb1; have hx1' := hx1.less 2)
      | (go_at_call 106; refine (ref02_trim true a1 n1 c1 l1 _ hs1 hn1).mono ?_; rw [hv1]; rintro e w2 ⟨a', n', c2, rfl, hs', hb', hpv⟩; have hx2 := hx1.mono hb'; have hx2' := hx2.less 2; have e0 : w2.cell? ⟨w.heap.size + 1 + 1, 0, none⟩ = some (.bool false) := hx2.cell' 2 0 _ _ rfl rfl; have e1 : w2.cell? ⟨w.heap.size + 1 + 1, 1, none⟩ = some (.slice none 0 0) := hx2.cell' 2 1 _ _ rfl rfl; have e2 : w2.frozen? ⟨w.heap.size + 1 + 1, 0, none⟩ = false := hx2.frozen' 2 0 (by simp); have e3 : w2.frozen? ⟨w.heap.size + 1 + 1, 1, none⟩ = false := hx2.frozen' 2 1 (by simp)))
  all_goals
    go_wp2
    (try simp only [Exit.inBlock, Exit.then])
    refine bodyPost_ret (v := .agg #[.bool (sg true n'), .slice a' n' c2]) (by simp [results, Tryd.results150, go_sem, e0, e1]) rfl ?_
    have hsz1 : w.heap.size + 3 ≤ w1.heap.size := hx1.size
    have hof : Off a' n' (w.heap.size + 1 + 1) := hpv.off0 (by omega)
    exact ⟨_, _, _, rfl, (hs'.setCell hof _).setCell hof _, ((hx2.below.setCell (p := ⟨w.heap.size + 1 + 1, 0, none⟩) (by simp; omega) _).setCell (p := ⟨w.heap.size + 1 + 1, 1, none⟩) (by simp; omega) _), hpv.mono hx1.below.size⟩
end Go.Proofs.YtbnjmeeaaieicaaDoor
