/- Contracts of the reference's Sub of whole numbers. -/
import Derived.Test.YtbnjmeeaaieicaaDoorW86
open Alg Go Go.RowKit
namespace Go.Proofs.YtbnjmeeaaieicaaDoor
open Go.RowKit
set_option maxRecDepth 100000 in
set_option maxHeartbeats 2000000 in
theorem ref02_Sub_by (na nb no : Bool) (lo : List Nat) (a : Option Addr) (n cap : Nat) (b : Option Addr) (m cap' : Nat) (lb : List Nat) (w : World) (hb : Sl w b m cap' lb) (hm : m ≤ 1000000)
    (H : ∀ (W : World) (a2 : Option Addr) (n2 c2 : Nat), Below w.heap.size w W → Sl W a2 n2 c2 (lim (valN lb)) → Calls Tryd.prog 150 #[.agg #[.bool na, .slice a n cap], .agg #[.bool (sg (!nb) n2), .slice a2 n2 c2]] W (RetT2 no lo W)) :
    Calls Tryd.prog 134 #[.agg #[.bool na, .slice a n cap], .agg #[.bool nb, .slice b m cap']] w (RetT2 no lo w) := by
  have hbx := boxes3 w #[.bool na, .slice a n cap] #[.bool nb, .slice b m cap'] #[.bool false, .slice none 0 0] 25 25 25
  have hbx2 := hbx.less 2
  have HH := Alg.hid H
  clear H
  have K : Hid (∀ W, Boxes w W [#[.bool na, .slice a n cap], #[.bool nb, .slice b m cap']] → W.cell? ⟨w.heap.size, 0, none⟩ = some (.bool na) ∧ W.cell? ⟨w.heap.size, 1, none⟩ = some (.slice a n cap) ∧ W.cell? ⟨w.heap.size + 1, 0, none⟩ = some (.bool nb) ∧ W.cell? ⟨w.heap.size + 1, 1, none⟩ = some (.slice b m cap') ∧ Boxes w W [#[.bool na, .slice a n cap], #[.bool nb, .slice b m cap']]) :=
    fun W h => ⟨h.cell' 0 0 _ _ rfl rfl, h.cell' 0 1 _ _ rfl rfl, h.cell' 1 0 _ _ rfl rfl, h.cell' 1 1 _ _ rfl rfl, h⟩
  go_enter Tryd.func134, Tryd.ntmps134
  go_wp2
  go_region_held3 (fun W => W.cell? ⟨w.heap.size, 0, none⟩ = some (.bool na) ∧ W.cell? ⟨w.heap.size, 1, none⟩ = some (.slice a n cap) ∧ W.cell? ⟨w.heap.size + 1, 0, none⟩ = some (.bool nb) ∧ W.cell? ⟨w.heap.size + 1, 1, none⟩ = some (.slice b m cap') ∧ Boxes w W [#[.bool na, .slice a n cap], #[.bool nb, .slice b m cap']])
    (first | (exact K.out _ (by assumption)) | (exact K.out _ hbx2.drew) | (exact K.out _ (Boxes.setCell (Boxes.setCell (by assumption) (by simp) _) (by simp) _)))
    (first
      | (go_at_call 133; refine (ref02_Neg nb b m cap' lb _ ((hb.mono hbx.below).drew) (by omega)).mono ?_; rintro e w1 ⟨a1, n1, c1, rfl, hs1, hb1, hp1⟩; have hx1 := hbx.drew.mono hb1; have hx1' := hx1.less 2)
      | (go_at_call 150; refine (HH.out w1 a1 n1 c1 hx1.below hs1).mono ?_; rintro e w2 ⟨a', n', c2, rfl, hs', hb', hpv⟩; have hx2 := hx1.mono hb'; have hx2' := hx2.less 2; have e0 : w2.cell? ⟨w.heap.size + 1 + 1, 0, none⟩ = some (.bool false) := hx2.cell' 2 0 _ _ rfl rfl; have e1 : w2.cell? ⟨w.heap.size + 1 + 1, 1, none⟩ = some (.slice none 0 0) := hx2.cell' 2 1 _ _ rfl rfl; have e2 : w2.frozen? ⟨w.heap.size + 1 + 1, 0, none⟩ = false := hx2.frozen' 2 0 (by simp); have e3 : w2.frozen? ⟨w.heap.size + 1 + 1, 1, none⟩ = false := hx2.frozen' 2 1 (by simp)))
  all_goals
    go_wp2
    (try simp only [Exit.inBlock, Exit.then])
    refine bodyPost_ret (v := .agg #[.bool (sg no n'), .slice a' n' c2]) (by simp [results, Tryd.results134, go_sem, e0, e1]) rfl ?_
    have hsz1 : w.heap.size + 3 ≤ w1.heap.size := hx1.size
    have hof : Off a' n' (w.heap.size + 1 + 1) := hpv.off0 (by omega)
    exact ⟨_, _, _, rfl, (hs'.setCell hof _).setCell hof _, ((hx2.below.setCell (p := ⟨w.heap.size + 1 + 1, 0, none⟩) (by simp; omega) _).setCell (p := ⟨w.heap.size + 1 + 1, 1, none⟩) (by simp; omega) _), hpv.mono hx1.below.size⟩
theorem len_lim1 : (lim 1).length = 1 := by rw [lim_one (by decide) (by decide)]; rfl
/-- one less, of a number not above 0 -/
theorem ref02_Sub_one (Q : Nat) (a : Option Addr) (n cap : Nat) (b : Option Addr) (m cap' : Nat) (w : World) (ha : Sl w a n cap (lim Q)) (hb : Sl w b m cap' (lim 1)) (hn : n ≤ 1000000) :
    Calls Tryd.prog 134 #[.agg #[.bool (sg true n), .slice a n cap], .agg #[.bool false, .slice b m cap']] w (RetT2 true (lim (Q + 1)) w) := by
  have hm : m = 1 := by rw [← hb.len]; exact len_lim1
  refine ref02_Sub_by (sg true n) false true _ a n cap b m cap' (lim 1) w hb (by omega) (fun W a2 n2 c2 hB h2 => ?_)
  rw [valN_lim] at h2
  have h2l : n2 = 1 := by rw [← h2.len]; exact len_lim1
  subst h2l
  rw [show sg (!false) 1 = true from rfl]
  rcases Nat.eq_zero_or_pos n with h0 | h0
  · subst h0
    have hQ : Q = 0 := by
      have h3 := valN_lim Q
      rw [List.length_eq_zero_iff.1 ha.len] at h3
      exact h3.symm
    subst hQ
    have h := ref02_Add_lt_f a 0 cap (lim 0) a2 1 c2 (lim 1) W (ha.mono hB) h2 (by omega) (lim_canon _) (lim_canon _) (by rw [valN_lim, valN_lim]; decide) (by omega)
    rw [valN_lim, valN_lim] at h
    exact h
  · rw [sg_t1 h0]
    have h := ref02_Add_same true a n cap (lim Q) a2 1 c2 (lim 1) W (ha.mono hB) h2 hn (by omega)
    rw [valN_lim, valN_lim] at h
    exact h
/-- a lesser one off a number above 0 -/
theorem ref02_Sub_le (X R : Nat) (a : Option Addr) (n cap : Nat) (b : Option Addr) (m cap' : Nat) (w : World) (ha : Sl w a n cap (lim X)) (hb : Sl w b m cap' (lim R)) (hn : n ≤ 1000000) (hR : 0 < R) (hle : R ≤ X) :
    Calls Tryd.prog 134 #[.agg #[.bool false, .slice a n cap], .agg #[.bool false, .slice b m cap']] w (RetT2 false (lim (X - R)) w) := by
  have hmn : m ≤ n := by
    rw [← hb.len, ← ha.len]
    rcases Nat.lt_or_ge (lim X).length (lim R).length with h | h
    · have := lt_len ha.lt (lim_canon R) h
      rw [valN_lim, valN_lim] at this
      omega
    · exact h
  refine ref02_Sub_by false false false _ a n cap b m cap' (lim R) w hb (by omega) (fun W a2 n2 c2 hB h2 => ?_)
  rw [valN_lim] at h2
  have h2l : n2 = m := by rw [← h2.len, ← hb.len]
  have h2p : 0 < n2 := by
    rcases Nat.eq_zero_or_pos n2 with h | h
    · have h3 := valN_lim R
      rw [List.length_eq_zero_iff.1 (h2.len.trans h)] at h3
      have h4 : valN [] = 0 := rfl
      omega
    · exact h
  rw [show sg (!false) n2 = true from sg_t1 h2p]
  have h := ref02_Add_ge_f a n cap (lim X) a2 n2 c2 (lim R) W (ha.mono hB) h2 hn (lim_canon _) (lim_canon _) (by rw [valN_lim, valN_lim]; exact hle) (by omega)
  rw [valN_lim, valN_lim] at h
  exact h
end Go.Proofs.YtbnjmeeaaieicaaDoor
