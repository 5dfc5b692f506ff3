/- The reference's DivMod of naturals. -/
import Derived.Test.YtbnjmeeaaieicaaDoorW81
import Derived.Test.YtbnjmeeaaieicaaDoorW82
import Derived.Deep.RegionHeld3
import Derived.OwnWalk
open Alg Go Go.RowKit
namespace Alg
/-- the number at this slice's place -/
def valAt (W : World) : Value → Nat
  | .slice (some x) n _ => valN ((List.range n).map fun i => match W.cell? ⟨x.block, x.off + i, none⟩ with | some (.int _ z) => z.toNat | _ => 0)
  | _ => 0
theorem valAt_sl {W : World} {a : Option Addr} {n cap : Nat} {l : List Nat} (h : Sl W a n cap l) : valAt W (.slice a n cap) = valN l := by
  have hl := h.len
  rcases h.rd with h0 | ⟨b, off, rfl, hc⟩
  · have e : l = [] := List.length_eq_zero_iff.1 (by omega)
    subst e
    subst h0
    cases a <;> rfl
  · show valN _ = _
    congr 1
    apply List.ext_getElem
    · simp [hl]
    · intro i h1 h2
      have hi : i < n := by simpa using h1
      simp only [List.getElem_map, List.getElem_range]
      rw [hc i hi]
      show ((nth l i : Nat) : Int).toNat = _
      rw [Int.toNat_natCast]
      unfold nth
      simp [List.getD, List.getElem?_eq_getElem h2]
theorem lim_len_le {x : Nat} {l : List Nat} (bl : ∀ i, nth l i < 4294967296) (h : x ≤ valN l) : (lim x).length ≤ l.length := by
  rcases Nat.lt_or_ge l.length (lim x).length with h1 | h1
  · have := lt_len bl (lim_canon x) h1
    rw [valN_lim] at this
    omega
  · exact h1
theorem zpad_lt {l : List Nat} (h : ∀ i, nth l i < 4294967296) : ∀ k i, nth (List.replicate k 0 ++ l) i < 4294967296
  | 0, i => by simpa using h i
  | k + 1, 0 => by show (0 : Nat) < _; decide
  | k + 1, i + 1 => by
    have := zpad_lt h k i
    rw [List.replicate_succ, List.cons_append]
    exact this
theorem lim_pos_len {g : Nat} (h : 1 ≤ g) : 0 < (lim g).length := by
  rcases Nat.eq_zero_or_pos (lim g).length with h1 | h1
  · have e := List.length_eq_zero_iff.1 h1
    have := valN_lim g
    rw [e] at this
    have e2 : valN [] = 0 := rfl
    omega
  · exact h1
theorem lim_small {g : Nat} (h : g < 4294967296) : (lim g).length ≤ 1 :=
  lim_len_le (l := [g]) (fun i => by cases i with | zero => exact h | succ i => show (0 : Nat) < _; decide) (by show g ≤ g + 4294967296 * 0; omega)
theorem makes {P : Program} (t : TypeId) (e : TypeId) (i : TypeInfo) (z : Value) (size : Nat) (h1 : P.underlying t = some (.slice e)) (h2 : P.info? e = some i) (h3 : i.zero = some z) (h4 : i.size = size)
    (n : Nat) (b2 : i.bytes * n ≤ 281474976710656) (b3 : n ≤ maxLen) :
    ∃ F : World → World, (∀ W, (Instr.makeSlice t (.int .i64 (n : Int)) (.int .i64 (n : Int))).run P W = .ok (.slice (some ⟨W.heap.size, 0, none⟩) n n) (F W)) ∧
      (∀ base W, base ≤ W.heap.size → (F W).ownsRow base e size (.slice (some ⟨W.heap.size, 0, none⟩) n n) n (madeCells z.cells (n * size)).toList ∧ W.grownBy (F W) none) := by
  have h : ∀ W : World, ∃ w' : World, (Instr.makeSlice t (.int .i64 (n : Int)) (.int .i64 (n : Int))).run P W = .ok (.slice (some ⟨W.heap.size, 0, none⟩) n n) w' := by
    intro W
    obtain ⟨w', hrun, _, _⟩ := run_make_full (P := P) W 0 t e i z size h1 h2 h3 h4 .i64 .i64 n b2 b3 (Nat.zero_le _)
    exact ⟨w', hrun⟩
  refine ⟨fun W => (h W).choose, fun W => (h W).choose_spec, fun base W hB => ?_⟩
  obtain ⟨w', hrun, r1, r2⟩ := run_make_full (P := P) W base t e i z size h1 h2 h3 h4 .i64 .i64 n b2 b3 hB
  have h5 := hrun.symm.trans (h W).choose_spec
  have h6 : w' = (h W).choose := by injection h5
  have h7 : ∀ x, w' = x → x.ownsRow base e size (.slice (some ⟨W.heap.size, 0, none⟩) n n) n (madeCells z.cells (n * size)).toList ∧ W.grownBy x none := fun x hx => hx ▸ ⟨r1, r2⟩
  exact h7 _ h6
theorem sl_news {w : World} {x : Addr} {n cap : Nat} {l : List Nat} (h : Sl w (some x) n cap l) : ∀ (j : Nat) (u : Value), (vals l)[j]? = some u → w.cell? (x.add j) = some u := by
  have h1 := h.cell_take (Below.refl _ _) (Nat.le_refl n)
  rwa [List.take_of_length_le (by rw [h.len]; exact Nat.le_refl _)] at h1
/-- the two answers of a division -/
def RetQR (q r : Nat) (w : World) (e : Ending) (w' : World) : Prop :=
  ∃ a n cap b m cap', e = .returned (.tuple #[.slice a n cap, .slice b m cap', .bool true]) ∧ Sl w' a n cap (lim q) ∧ Sl w' b m cap' (lim r) ∧ Below w.heap.size w w' ∧ Prov w [] a n ∧ Prov w [] b m ∧ (a = none → cap = 0) ∧ (b = none → cap' = 0)
end Alg
namespace Go.Proofs.YtbnjmeeaaieicaaDoor
open Go.RowKit
set_option maxRecDepth 100000 in
set_option maxHeartbeats 4000000 in
theorem ref01_DivMod (a : Option Addr) (n cap : Nat) (la : List Nat) (b : Option Addr) (m cap' : Nat) (lb : List Nat) (w : World) (ha : Sl w a n cap la) (hb : Sl w b m cap' lb)
    (cb : Canon 4294967296 lb) (hn : n ≤ 100000) (hm : m ≤ 100000) (hp : 0 < valN lb) :
    Calls Tryd.prog 132 #[.slice a n cap, .slice b m cap'] w (RetQR (valN la / valN lb) (valN la % valN lb) w) := by
  obtain ⟨i0, hi, hz0, hz1, hz2⟩ := info_parts Tryd.infoN
  have hal := ha.len
  have hbl := hb.len
  have hm1 : 1 ≤ m := by
    rcases Nat.eq_zero_or_pos m with h | h
    · have e : lb = [] := List.length_eq_zero_iff.1 (by omega)
      rw [e] at hp
      have : valN [] = 0 := rfl
      omega
    · exact h
  have hm0 : ((m : Int) == 0) = false := by simp; omega
  have HP := Alg.hid hp
  have HAL := Alg.hid hal
  have HALT := Alg.hid ha.lt
  have hmi : ¬ (m : Int) = 0 := by omega
  have hmn0 : ¬ m = 0 := by omega
  clear hal hbl
  go_enter Tryd.func132, Tryd.ntmps132
  go_wp2_with fail
  refine (ref01_Trim a n cap la _ ha (by omega)).mono ?_
  rw [trim_lim ha.lt]
  rintro e w0 ⟨ar0, nr0, cr0, rfl, hs0, hb0, hp0, hz0'⟩
  clear hm0 hmi hmn0
  go_wp2
  go_loopw [7, 8] (fun vq vr wr => ∃ (Q R : Nat) (aq : Option Addr) (nq cq : Nat) (ar : Option Addr) (nr cr : Nat), vq = .slice aq nq cq ∧ vr = .slice ar nr cr ∧ Hid (Q * valN lb + R = valN la) ∧ Sl wr aq nq cq (lim Q) ∧ Prov w [] aq nq ∧ (aq = none → cq = 0) ∧ Sl wr ar nr cr (lim R) ∧ Prov w [] ar nr ∧ (ar = none → cr = 0) ∧ Hid (Below w.heap.size w wr)) (fun _ v W => valAt W v)
  case atStart => exact ⟨0, valN la, none, 0, 0, ar0, nr0, cr0, rfl, rfl, (by show _ = _; rw [Nat.zero_mul, Nat.zero_add]), (by rw [lim_zero]; exact Sl.of_nil _ _ _ (by omega)), Or.inl rfl, fun _ => rfl, hs0, hp0, hz0', hb0⟩
  case round =>
    clear hs0 hb0 hp0 hz0'
    obtain ⟨Q, R, aq, nq, cq, ar, nr, cr, rfl, rfl, hI, hsq, hpq, hzq, hsr, hpr, hzr, hbw⟩ := hrel
    have hnq : nq ≤ n := by
      have h1 : (lim Q).length ≤ la.length := lim_len_le HALT.out (by
        have h2 := hI.out
        have h3 : Q * 1 ≤ Q * valN lb := Nat.mul_le_mul_left Q HP.out
        omega)
      rw [hsq.len, HAL.out] at h1; exact h1
    have hnr : nr ≤ n := by
      have h1 : (lim R).length ≤ la.length := lim_len_le HALT.out (by
        have h2 := hI.out
        omega)
      rw [hsr.len, HAL.out] at h1; exact h1
    obtain ⟨C, hC⟩ : ∃ C, C = cmpN R (valN lb) := ⟨_, rfl⟩
    have HC := Alg.hid hC
    by_cases hc : valN lb ≤ R
    · have hC0 : ¬ C < 0 := by
        rw [hC]; unfold cmpN; rw [if_neg (by omega)]; split <;> omega
      have HLE := Alg.hid hc
      clear hC hc
      go_wp2_with fail
      refine (ref01_Cmp ar nr cr (lim R) b m cap' lb _ hsr (hb.mono hbw.out) (lim_canon _) cb).mono ?_
      rw [valN_lim, ← HC.out]
      rintro e w1 ⟨rfl, hb1⟩
      go_wp2_with fail
      refine (ref01_guess ar nr cr (lim R) b m cap' lb _ (hsr.mono hb1) (hb.mono (hbw.out.trans (hb1.mono hbw.out.size))) (lim_canon _) cb (by omega) hm1 (by rw [valN_lim]; exact HLE.out)).mono ?_
      rintro e w2 ⟨⟨g, k, rfl, hG⟩, hb2⟩
      have hg1 := hG.1
      have hgl := hG.2.1
      have hkl : k ≤ nr := by have := hG.2.2.1; rw [hsr.len] at this; exact this
      have HLE2 : Hid (4294967296 ^ k * g * valN lb ≤ R) := by
        show _ ≤ _
        have := hG.2.2.2
        rw [valN_lim, Nat.mul_comm g] at this
        exact this
      have HPOS : Hid (0 < 4294967296 ^ k * g * valN lb) := Nat.mul_pos (Nat.mul_pos (Nat.pow_pos (by decide)) hg1) HP.out
      have hlg := lim_pos_len hg1
      have hlg2 := lim_small hgl
      have HB1 : Hid (Below wr.heap.size wr w2) := hb1.trans (hb2.mono hb1.size)
      clear hG hb1 hb2 HC
      have hb1 := HB1
      have HLG := Alg.hid hlg
      have HLG2 := Alg.hid hlg2
      have q1 : k + 1 ≤ maxLen := by unfold maxLen; omega
      have zk : Hid (k ≤ maxLen) := by show _ ≤ _; unfold maxLen; omega
      clear hlg hlg2 q1
      have HV1 := Alg.hid (vals_one (lim g))
      obtain ⟨F, HMK, hmk2⟩ := makes (P := Tryd.prog) 23 22 i0 (.int .u32 0) 1 Tryd.underlying23 hi hz0 hz1 k (by rw [hz2]; omega) zk.out
      rw [madeCells_u32] at hmk2
      have hmkA : ∀ W, w2.heap.size ≤ W.heap.size → Arr (F W) 22 w2.heap.size W.heap.size k k (List.replicate k 0) ∧ Below W.heap.size W (F W) := fun W hW => ⟨⟨(hmk2 _ W hW).1, zeros_lt _⟩, below_grown (hmk2 _ W hW).2⟩
      have HMA := Alg.hid hmkA
      clear hmk2 hmkA
      go_wp2
      go_region_held3 (fun _ => True) (first | (exact K.out _ trivial) | fail)
        (first
          | (go_at_call 146; refine (ref01_Of g _ (by omega)).mono ?_; rintro e wc ⟨ao, no, co, rfl, hso, hbo, hpo, hzo⟩; have hno : 0 < no := (by have := HLG.out; rw [hso.len] at this; exact this); have hno2 : no ≤ 1 := (by have := HLG2.out; rw [hso.len] at this; exact this); obtain ⟨ob, oo, rfl, -⟩ := hso.at (k := 0) hno)
          | (refine step_append_lies _ (by rfl) _ _ 23 (by rfl) w2.heap.size 22 i0 (.int .u32 0) 1 4 Tryd.underlying23 hi hz0 hz1 hz2 rfl Nat.one_pos _ k (vals (List.replicate k 0)) (by rfl) (((HMA.out w2.drew (Nat.le_refl _)).1.mono hbo).own) ⟨ob, oo, none⟩ no co (vals (lim g)) (by rfl) (by simp only [vals, List.length_map, hso.len, Nat.mul_one]) (sl_news hso) HV1.out hno (by unfold maxLen; omega) (by omega) (Nat.le_trans (HMA.out w2.drew (Nat.le_refl _)).2.size hbo.size) wc.heap.size rfl ?_
             intro gg c3 w3 hown3 hgrow hat hlt3
             have hB3 : Below w2.heap.size w2 w3 := (((show Below w2.heap.size w2 w2.drew from ⟨rfl, rfl, rfl, Nat.le_refl _, fun _ _ => rfl⟩).trans (HMA.out w2.drew (Nat.le_refl _)).2).trans (hbo.mono (HMA.out w2.drew (Nat.le_refl _)).2.size)).grown hgrow (Nat.le_trans (HMA.out w2.drew (Nat.le_refl _)).2.size hbo.size) (fun q hq => by have h9 := Option.some.inj (show some w2.heap.size = some q from hq); omega))
          | (refine step_append_lies _ (by rfl) _ _ 23 (by rfl) w2.heap.size 22 i0 (.int .u32 0) 1 4 Tryd.underlying23 hi hz0 hz1 hz2 rfl Nat.one_pos _ k (vals (List.replicate k 0)) (by rfl) ((HMA.out wc hbo.size).1.own) ⟨ob, oo, none⟩ no co (vals (lim g)) (by rfl) (by simp only [vals, List.length_map, hso.len, Nat.mul_one]) (sl_news (hso.mono (HMA.out wc hbo.size).2)) HV1.out hno (by unfold maxLen; omega) (by omega) (Nat.le_trans hbo.size (HMA.out wc hbo.size).2.size) (F wc).heap.size rfl ?_
             intro gg c3 w3 hown3 hgrow hat hlt3
             have hB3 : Below w2.heap.size w2 w3 := (((show Below w2.heap.size w2 w2.drew from ⟨rfl, rfl, rfl, Nat.le_refl _, fun _ _ => rfl⟩).trans hbo).trans ((HMA.out wc hbo.size).2.mono hbo.size)).grown hgrow (Nat.le_trans hbo.size (HMA.out wc hbo.size).2.size) (fun q hq => by have h9 := Option.some.inj (show some wc.heap.size = some q from hq); have h10 : w2.heap.size ≤ wc.heap.size := hbo.size; omega))
          | fail)
      all_goals
        have hA3 : Arr w3 22 w2.heap.size gg (k + no) c3 (List.replicate k 0 ++ lim g) := ⟨by simpa [vals] using hown3, zpad_lt (fun i => (lim_canon g).getD i) k⟩
        clear hown3 hgrow hat hlt3
        have hlenx := hA3.len
        have VX : Hid (valN (List.replicate k 0 ++ lim g) = 4294967296 ^ k * g) := by show _ = _; rw [valN_shift, valN_lim]
        have sp3 := hA3.split
        have hs3 := hA3.sl (by have := sp3.2.2.1; unfold maxLen at this; omega)
        have g3 := sp3.1
        clear hA3 sp3 hlenx
        go_wp2_with fail
        refine (ref01_Add aq nq cq (lim Q) (some ⟨gg, 0, none⟩) (k + no) c3 (List.replicate k 0 ++ lim g) _ (hsq.mono (hb1.out.trans (hB3.mono hb1.out.size))) hs3 (by omega) (by omega)).mono ?_
        rw [valN_lim, VX.out]
        rintro e w4 ⟨aq', nq', cq', rfl, hsq', hb4, hpq', hzq'⟩
        go_wp2_with fail
        refine (ref01_Mul (some ⟨gg, 0, none⟩) (k + no) c3 (List.replicate k 0 ++ lim g) b m cap' lb _ (hs3.mono hb4) (hb.mono (hbw.out.trans ((hb1.out.trans ((hB3.trans (hb4.mono hB3.size)).mono hb1.out.size)).mono hbw.out.size))) (by omega) (by omega)).mono ?_
        rw [VX.out]
        rintro e w5 ⟨am, nm, cm, rfl, hsm, hb5, hpm, hzm⟩
        have hB5 : Below wr.heap.size wr w5 := hb1.out.trans ((hB3.trans ((hb4.trans (hb5.mono hb4.size)).mono hB3.size)).mono hb1.out.size)
        go_wp2_with fail
        refine (ref01_Sub ar nr cr (lim R) am nm cm (lim (4294967296 ^ k * g * valN lb)) _ (hsr.mono hB5) hsm (by omega) (lim_canon _) (lim_canon _) (by rw [valN_lim, valN_lim]; exact HLE2.out)).mono ?_
        rw [valN_lim, valN_lim]
        rintro e w6 ⟨ar', nr', cr', rfl, hsr', hb6, hpr', hzr'⟩
        have hB6 : Below wr.heap.size wr w6 := hB5.trans (hb6.mono hB5.size)
        have HI2 : Hid ((Q + 4294967296 ^ k * g) * valN lb + (R - 4294967296 ^ k * g * valN lb) = valN la) := by
          show _ = _
          have h1 := hI.out
          have h2 := HLE2.out
          rw [Nat.add_mul]; omega
        have HM : Hid (valAt w6 (.slice ar' nr' cr') < valAt wr (.slice ar nr cr)) := by
          show _ < _
          rw [valAt_sl hsr', valAt_sl hsr, valN_lim, valN_lim]
          have h1 := HPOS.out
          have h2 := HLE2.out
          omega
        have hszr := hbw.out.size
        have hB4' : w.heap.size ≤ w4.heap.size := Nat.le_trans hszr (Nat.le_trans hb1.out.size (Nat.le_trans hB3.size hb4.size))
        have hB3' : w.heap.size ≤ w3.heap.size := Nat.le_trans hszr (Nat.le_trans hb1.out.size hB3.size)
        have hB5' : w.heap.size ≤ w5.heap.size := Nat.le_trans hB4' hb5.size
        go_wp2
        go_roundw
        case rel => exact ⟨_, _, aq', nq', cq', ar', nr', cr', rfl, rfl, HI2, hsq'.mono (hb5.trans (hb6.mono hb5.size)), hpq'.mono hB3', hzq', hsr', hpr'.mono hB5', hzr', hbw.out.trans (hB6.mono hszr)⟩
        case measure => exact HM.out

    · have hC0 : C < 0 := by
        rw [hC]; unfold cmpN; rw [if_pos (by omega)]; decide
      have HLT : Hid (R < valN lb) := by show _ < _; omega
      clear hC hc
      go_wp2_with fail
      refine (ref01_Cmp ar nr cr (lim R) b m cap' lb _ hsr (hb.mono hbw.out) (lim_canon _) cb).mono ?_
      rw [valN_lim, ← HC.out]
      rintro e w1 ⟨rfl, hb1⟩
      go_wp2
      go_ret3
      have e1 : valN la / valN lb = Q := by
        rw [← hI.out, Nat.mul_comm Q, Nat.mul_add_div HP.out, Nat.div_eq_of_lt HLT.out, Nat.add_zero]
      have e2 : valN la % valN lb = R := by
        rw [← hI.out, Nat.mul_comm Q, Nat.mul_add_mod, Nat.mod_eq_of_lt HLT.out]
      rw [e1, e2]
      exact ⟨aq, nq, cq, ar, nr, cr, rfl, hsq.mono hb1, hsr.mono hb1, hbw.out.trans (hb1.mono hbw.out.size), hpq, hpr, hzq, hzr⟩
end Go.Proofs.YtbnjmeeaaieicaaDoor
