/- Contracts of ppoly.zip at each of its three operations, and of the three functions over it. Contracts of ppoly.Add, Sub, Scale. Contract of ppoly.Mul. -/
import Derived.Test.YtbnjmeeaaieicaaDoorE0
section
open Alg
namespace Go.Proofs.YtbnjmeeaaieicaaDoor
open Go.RowKit
theorem Tryd.infoU : (Tryd.prog.info? 22).map (fun i => (i.zero, i.size, i.bytes)) = some (some (.int .u32 0), 1, 4) := by kernel_rfl
theorem clo_Add (p a b : Nat) (bf : Nat) (w : World) (hc : w.cell? ⟨bf, 0, none⟩ = some (.int .u32 p)) (hp0 : 0 < p) (hp : p < 4294967296) (ha : a < 4294967296) (hb : b < 4294967296) :
    Calls Tryd.prog 92 #[.int .u32 a, .int .u32 b, .pointer (some ⟨bf, 0, none⟩)] w fun e w' => e = .returned (.int .u32 (addM p a b : Nat)) ∧ w' = w := by
  go_enter Tryd.func92, Tryd.ntmps92
  go_wp2_with fail
  refine (modp_Add p a b _ hp0 hp ha hb).mono ?_
  rintro e w' ⟨rfl, rfl⟩
  go_wp2
  go_ret
  exact ⟨rfl, rfl⟩
theorem clo_Sub (p a b : Nat) (bf : Nat) (w : World) (hc : w.cell? ⟨bf, 0, none⟩ = some (.int .u32 p)) (hp0 : 0 < p) (hp : p < 4294967296) (ha : a < 4294967296) (hb : b ≤ p) :
    Calls Tryd.prog 93 #[.int .u32 a, .int .u32 b, .pointer (some ⟨bf, 0, none⟩)] w fun e w' => e = .returned (.int .u32 (subM p a b : Nat)) ∧ w' = w := by
  go_enter Tryd.func93, Tryd.ntmps93
  go_wp2_with fail
  refine (modp_Sub p a b _ hp0 hp ha hb).mono ?_
  rintro e w' ⟨rfl, rfl⟩
  go_wp2
  go_ret
  exact ⟨rfl, rfl⟩
theorem clo_Scale (p a b c : Nat) (bf bc : Nat) (w : World) (hc : w.cell? ⟨bf, 0, none⟩ = some (.int .u32 p)) (hc2 : w.cell? ⟨bc, 0, none⟩ = some (.int .u32 c)) (hp0 : 0 < p) (hp : p < 4294967296) (ha : a < 4294967296) (hb : c < 4294967296) :
    Calls Tryd.prog 91 #[.int .u32 a, .int .u32 b, .pointer (some ⟨bf, 0, none⟩), .pointer (some ⟨bc, 0, none⟩)] w fun e w' => e = .returned (.int .u32 (mulM p a c : Nat)) ∧ w' = w := by
  go_enter Tryd.func91, Tryd.ntmps91
  go_wp2_with fail
  refine (modp_Mul p a c _ hp0 hp ha hb).mono ?_
  rintro e w' ⟨rfl, rfl⟩
  go_wp2
  go_ret
  exact ⟨rfl, rfl⟩

set_option maxRecDepth 100000 in
set_option maxHeartbeats 1000000 in
theorem zip_Add (p : Nat) (fa : Option Addr) (fn fcap : Nat) (fl : List Nat) (ga : Option Addr) (gn gcap : Nat) (gl : List Nat) (q : Int) (bf : Nat) (w : World) (hf : Sl w fa fn fcap fl) (hg : Sl w ga gn gcap gl)
    (hc : w.cell? ⟨bf, 0, none⟩ = some (.int .u32 p)) (hp0 : 0 < p) (hp : p < 4294967296) (hgb : ∀ i, nth gl i < 4294967296) (hfn : fn ≤ 1099511627776) (hgn : gn ≤ 1099511627776) :
    Calls Tryd.prog 90 #[.agg #[.int .u32 p, .slice fa fn fcap], .agg #[.int .u32 q, .slice ga gn gcap], .func (.func 92) #[] #[.pointer (some ⟨bf, 0, none⟩)]] w
      (RetP p (trim ((List.range (max fn gn)).map (fun i => addM p (nth fl i) (nth gl i)))) [] w) := by
  obtain ⟨i0, hi, hz0, hz1, hz2⟩ := info_parts Tryd.infoU
  have hmx : max fn gn ≤ 1099511627776 := Nat.max_le.2 ⟨hfn, hgn⟩
  obtain ⟨n, hn⟩ : ∃ n, n = max fn gn := ⟨_, rfl⟩
  rw [← hn] at hmx ⊢
  have hfle : fn ≤ n := by omega
  have hgle : gn ≤ n := by omega
  have hm1 : (if (fn : Int) < (gn : Int) then (gn : Int) else (fn : Int)) = (n : Int) := by split <;> omega
  have hm2 : (if fn < gn then (gn : Int) else (fn : Int)) = (n : Int) := by split <;> omega
  have HN := Alg.hid hn
  have HGB := Alg.hid hgb
  clear hn hgb
  go_enter Tryd.func90, Tryd.ntmps90
  go_wp2_with (at_make; refine wpList_make_full _ rfl _ _ 23 rfl w.heap.size 22 i0 (.int .u32 0) 1 Tryd.underlying23 hi hz0 hz1 .i64 .i64 _ _ n rfl rfl rfl rfl (by rw [hz2]; omega) (by unfold maxLen; omega) (by simp; omega) ?_; rw [madeCells_u32]; intro w1 hown hgr; clear hm1 hm2; simp only [World.size_alloc] at hown; have hbx := (boxes3 w _ _ _ _ _ _).mono (below_grown hgr); clear hgr; have hA : Arr w1 22 w.heap.size (w.heap.size + 1 + 1 + 1) n n (List.replicate n 0) := ⟨hown, fun i => by rw [← upto_zero (fun _ => 0) n, nth_upto]; split <;> decide⟩; clear hown)
  go_loopw [21] (fun v wr => ∃ k : Nat, v = .int .i64 k ∧ k ≤ n ∧ Arr wr 22 w.heap.size (w.heap.size + 1 + 1 + 1) n n (upto (fun i => addM p (nth fl i) (nth gl i)) n k) ∧ Boxes w wr [#[.int .u32 (p : Int), .slice fa fn fcap], #[.int .u32 q, .slice ga gn gcap], #[.int .u32 0, .slice none 0 0]]) (fun v _ => n - (intOf v).toNat)
  case atStart => exact ⟨0, rfl, Nat.zero_le _, by rw [upto_zero]; exact hA, hbx⟩
  case round =>
    clear hA hbx
    obtain ⟨k, rfl, hk, hA, hbx⟩ := hrel
    have d0 : wr.cell? ⟨w.heap.size, 0, none⟩ = some (.int .u32 (p : Int)) := hbx.cell' 0 0 _ _ rfl rfl
    have d1 : wr.cell? ⟨w.heap.size, 1, none⟩ = some (.slice fa fn fcap) := hbx.cell' 0 1 _ _ rfl rfl
    have d2 : wr.cell? ⟨w.heap.size + 1, 1, none⟩ = some (.slice ga gn gcap) := hbx.cell' 1 1 _ _ rfl rfl
    have hB := hbx.below
    have hcw : wr.cell? ⟨bf, 0, none⟩ = some (.int .u32 p) := (hB.cell (p := ⟨bf, 0, none⟩) (cell_lt hc)).trans hc
    by_cases hkn : k < n
    · have cA := hA.cell hkn
      have fA := hA.frozen k
      have HA := Alg.hid hA
      clear hA
      by_cases h1 : k < fn
      · rcases hf.rd with h0 | ⟨b, off, rfl, hcf⟩
        · omega
        have c1 := (hB.cell (p := ⟨b, off + k, none⟩) (cell_lt (hcf k h1))).trans (hcf k h1)
        clear hcf
        by_cases h2 : k < gn
        · rcases hg.rd with h0 | ⟨b', off', rfl, hcg⟩
          · omega
          have c2 := (hB.cell (p := ⟨b', off' + k, none⟩) (cell_lt (hcg k h2))).trans (hcg k h2)
          clear hcg
          go_wp2_with fail
          refine (clo_Add p (nth fl k) (nth gl k) bf _ hcw hp0 hp (hf.lt k) (HGB.out k)).mono ?_
          rintro e w' ⟨rfl, rfl⟩
          go_wp2
          go_roundw
          case rel => exact ⟨k + 1, by go_num, by omega, by rw [← upto_set]; exact HA.out.set k _ (Nat.lt_trans (addM_lt _ _ _ hp0) hp), hbx.setCell (by simp) _⟩
          case measure => simp [intOf]; omega
        · have hz := Sl.nth_ge hg (i := k) (by omega)
          have HZ := Alg.hid hz
          clear hz
          go_wp2_with fail
          refine (clo_Add p (nth fl k) 0 bf _ hcw hp0 hp (hf.lt k) (by omega)).mono ?_
          rintro e w' ⟨rfl, rfl⟩
          go_wp2
          go_roundw
          case rel => exact ⟨k + 1, by go_num, by omega, by rw [← upto_set]; (try rw [HZ.out]); exact HA.out.set k _ (Nat.lt_trans (addM_lt _ _ _ hp0) hp), hbx.setCell (by simp) _⟩
          case measure => simp [intOf]; omega
      · have hz1 := Sl.nth_ge hf (i := k) (by omega)
        have HZ1 := Alg.hid hz1
        clear hz1
        by_cases h2 : k < gn
        · rcases hg.rd with h0 | ⟨b', off', rfl, hcg⟩
          · omega
          have c2 := (hB.cell (p := ⟨b', off' + k, none⟩) (cell_lt (hcg k h2))).trans (hcg k h2)
          clear hcg
          go_wp2_with fail
          refine (clo_Add p 0 (nth gl k) bf _ hcw hp0 hp (by omega) (HGB.out k)).mono ?_
          rintro e w' ⟨rfl, rfl⟩
          go_wp2
          go_roundw
          case rel => exact ⟨k + 1, by go_num, by omega, by rw [← upto_set]; (try rw [HZ1.out]); exact HA.out.set k _ (Nat.lt_trans (addM_lt _ _ _ hp0) hp), hbx.setCell (by simp) _⟩
          case measure => simp [intOf]; omega
        · exfalso; have := HN.out; omega
    · have HL := Alg.hid (hA.sl (by omega))
      clear hA
      go_wp2_with fail
      refine (ppoly_of p _ n n _ _ HL.out).mono ?_
      rintro e w' ⟨a', n', cap', rfl, hs', hb', hpv⟩
      have hbx' := hbx.mono hb'
      have e0 : w'.cell? ⟨w.heap.size + 1 + 1, 0, none⟩ = some (.int .u32 0) := hbx'.cell' 2 0 _ _ rfl rfl
      have e1 : w'.cell? ⟨w.heap.size + 1 + 1, 1, none⟩ = some (.slice none 0 0) := hbx'.cell' 2 1 _ _ rfl rfl
      have e2 : w'.frozen? ⟨w.heap.size + 1 + 1, 0, none⟩ = false := hbx'.frozen' 2 0 (by simp)
      have e3 : w'.frozen? ⟨w.heap.size + 1 + 1, 1, none⟩ = false := hbx'.frozen' 2 1 (by simp)
      go_wp2
      (try simp only [Exit.inBlock, Exit.then])
      refine bodyPost_ret (v := .agg #[.int .u32 (p : Int), .slice a' n' cap']) (by simp [results, Tryd.results90, go_sem, e0, e1]) rfl ?_
      have ek : (List.range n).map (fun i => addM p (nth fl i) (nth gl i)) = upto (fun i => addM p (nth fl i) (nth gl i)) n k := (upto_all _ _ _ (by omega)).symm
      rw [ek]
      have hof : Off a' n' (w.heap.size + 1 + 1) := hpv.offb (by have := hbx.size; simp at this; omega) (by omega)
      exact ⟨_, _, _, rfl, (hs'.setCell hof _).setCell hof _, ((hbx'.below.setCell (p := ⟨w.heap.size + 1 + 1, 0, none⟩) (by simp; omega) _).setCell (p := ⟨w.heap.size + 1 + 1, 1, none⟩) (by simp; omega) _), hpv.new hB.size (by omega)⟩

set_option maxRecDepth 100000 in
set_option maxHeartbeats 1000000 in
theorem zip_Sub (p : Nat) (fa : Option Addr) (fn fcap : Nat) (fl : List Nat) (ga : Option Addr) (gn gcap : Nat) (gl : List Nat) (q : Int) (bf : Nat) (w : World) (hf : Sl w fa fn fcap fl) (hg : Sl w ga gn gcap gl)
    (hc : w.cell? ⟨bf, 0, none⟩ = some (.int .u32 p)) (hp0 : 0 < p) (hp : p < 4294967296) (hgb : ∀ i, nth gl i ≤ p) (hfn : fn ≤ 1099511627776) (hgn : gn ≤ 1099511627776) :
    Calls Tryd.prog 90 #[.agg #[.int .u32 p, .slice fa fn fcap], .agg #[.int .u32 q, .slice ga gn gcap], .func (.func 93) #[] #[.pointer (some ⟨bf, 0, none⟩)]] w
      (RetP p (trim ((List.range (max fn gn)).map (fun i => subM p (nth fl i) (nth gl i)))) [] w) := by
  obtain ⟨i0, hi, hz0, hz1, hz2⟩ := info_parts Tryd.infoU
  have hmx : max fn gn ≤ 1099511627776 := Nat.max_le.2 ⟨hfn, hgn⟩
  obtain ⟨n, hn⟩ : ∃ n, n = max fn gn := ⟨_, rfl⟩
  rw [← hn] at hmx ⊢
  have hfle : fn ≤ n := by omega
  have hgle : gn ≤ n := by omega
  have hm1 : (if (fn : Int) < (gn : Int) then (gn : Int) else (fn : Int)) = (n : Int) := by split <;> omega
  have hm2 : (if fn < gn then (gn : Int) else (fn : Int)) = (n : Int) := by split <;> omega
  have HN := Alg.hid hn
  have HGB := Alg.hid hgb
  clear hn hgb
  go_enter Tryd.func90, Tryd.ntmps90
  go_wp2_with (at_make; refine wpList_make_full _ rfl _ _ 23 rfl w.heap.size 22 i0 (.int .u32 0) 1 Tryd.underlying23 hi hz0 hz1 .i64 .i64 _ _ n rfl rfl rfl rfl (by rw [hz2]; omega) (by unfold maxLen; omega) (by simp; omega) ?_; rw [madeCells_u32]; intro w1 hown hgr; clear hm1 hm2; simp only [World.size_alloc] at hown; have hbx := (boxes3 w _ _ _ _ _ _).mono (below_grown hgr); clear hgr; have hA : Arr w1 22 w.heap.size (w.heap.size + 1 + 1 + 1) n n (List.replicate n 0) := ⟨hown, fun i => by rw [← upto_zero (fun _ => 0) n, nth_upto]; split <;> decide⟩; clear hown)
  go_loopw [21] (fun v wr => ∃ k : Nat, v = .int .i64 k ∧ k ≤ n ∧ Arr wr 22 w.heap.size (w.heap.size + 1 + 1 + 1) n n (upto (fun i => subM p (nth fl i) (nth gl i)) n k) ∧ Boxes w wr [#[.int .u32 (p : Int), .slice fa fn fcap], #[.int .u32 q, .slice ga gn gcap], #[.int .u32 0, .slice none 0 0]]) (fun v _ => n - (intOf v).toNat)
  case atStart => exact ⟨0, rfl, Nat.zero_le _, by rw [upto_zero]; exact hA, hbx⟩
  case round =>
    clear hA hbx
    obtain ⟨k, rfl, hk, hA, hbx⟩ := hrel
    have d0 : wr.cell? ⟨w.heap.size, 0, none⟩ = some (.int .u32 (p : Int)) := hbx.cell' 0 0 _ _ rfl rfl
    have d1 : wr.cell? ⟨w.heap.size, 1, none⟩ = some (.slice fa fn fcap) := hbx.cell' 0 1 _ _ rfl rfl
    have d2 : wr.cell? ⟨w.heap.size + 1, 1, none⟩ = some (.slice ga gn gcap) := hbx.cell' 1 1 _ _ rfl rfl
    have hB := hbx.below
    have hcw : wr.cell? ⟨bf, 0, none⟩ = some (.int .u32 p) := (hB.cell (p := ⟨bf, 0, none⟩) (cell_lt hc)).trans hc
    by_cases hkn : k < n
    · have cA := hA.cell hkn
      have fA := hA.frozen k
      have HA := Alg.hid hA
      clear hA
      by_cases h1 : k < fn
      · rcases hf.rd with h0 | ⟨b, off, rfl, hcf⟩
        · omega
        have c1 := (hB.cell (p := ⟨b, off + k, none⟩) (cell_lt (hcf k h1))).trans (hcf k h1)
        clear hcf
        by_cases h2 : k < gn
        · rcases hg.rd with h0 | ⟨b', off', rfl, hcg⟩
          · omega
          have c2 := (hB.cell (p := ⟨b', off' + k, none⟩) (cell_lt (hcg k h2))).trans (hcg k h2)
          clear hcg
          go_wp2_with fail
          refine (clo_Sub p (nth fl k) (nth gl k) bf _ hcw hp0 hp (hf.lt k) (HGB.out k)).mono ?_
          rintro e w' ⟨rfl, rfl⟩
          go_wp2
          go_roundw
          case rel => exact ⟨k + 1, by go_num, by omega, by rw [← upto_set]; exact HA.out.set k _ (Nat.lt_trans (subM_lt _ _ _ hp0) hp), hbx.setCell (by simp) _⟩
          case measure => simp [intOf]; omega
        · have hz := Sl.nth_ge hg (i := k) (by omega)
          have HZ := Alg.hid hz
          clear hz
          go_wp2_with fail
          refine (clo_Sub p (nth fl k) 0 bf _ hcw hp0 hp (hf.lt k) (by omega)).mono ?_
          rintro e w' ⟨rfl, rfl⟩
          go_wp2
          go_roundw
          case rel => exact ⟨k + 1, by go_num, by omega, by rw [← upto_set]; (try rw [HZ.out]); exact HA.out.set k _ (Nat.lt_trans (subM_lt _ _ _ hp0) hp), hbx.setCell (by simp) _⟩
          case measure => simp [intOf]; omega
      · have hz1 := Sl.nth_ge hf (i := k) (by omega)
        have HZ1 := Alg.hid hz1
        clear hz1
        by_cases h2 : k < gn
        · rcases hg.rd with h0 | ⟨b', off', rfl, hcg⟩
          · omega
          have c2 := (hB.cell (p := ⟨b', off' + k, none⟩) (cell_lt (hcg k h2))).trans (hcg k h2)
          clear hcg
          go_wp2_with fail
          refine (clo_Sub p 0 (nth gl k) bf _ hcw hp0 hp (by omega) (HGB.out k)).mono ?_
          rintro e w' ⟨rfl, rfl⟩
          go_wp2
          go_roundw
          case rel => exact ⟨k + 1, by go_num, by omega, by rw [← upto_set]; (try rw [HZ1.out]); exact HA.out.set k _ (Nat.lt_trans (subM_lt _ _ _ hp0) hp), hbx.setCell (by simp) _⟩
          case measure => simp [intOf]; omega
        · exfalso; have := HN.out; omega
    · have HL := Alg.hid (hA.sl (by omega))
      clear hA
      go_wp2_with fail
      refine (ppoly_of p _ n n _ _ HL.out).mono ?_
      rintro e w' ⟨a', n', cap', rfl, hs', hb', hpv⟩
      have hbx' := hbx.mono hb'
      have e0 : w'.cell? ⟨w.heap.size + 1 + 1, 0, none⟩ = some (.int .u32 0) := hbx'.cell' 2 0 _ _ rfl rfl
      have e1 : w'.cell? ⟨w.heap.size + 1 + 1, 1, none⟩ = some (.slice none 0 0) := hbx'.cell' 2 1 _ _ rfl rfl
      have e2 : w'.frozen? ⟨w.heap.size + 1 + 1, 0, none⟩ = false := hbx'.frozen' 2 0 (by simp)
      have e3 : w'.frozen? ⟨w.heap.size + 1 + 1, 1, none⟩ = false := hbx'.frozen' 2 1 (by simp)
      go_wp2
      (try simp only [Exit.inBlock, Exit.then])
      refine bodyPost_ret (v := .agg #[.int .u32 (p : Int), .slice a' n' cap']) (by simp [results, Tryd.results90, go_sem, e0, e1]) rfl ?_
      have ek : (List.range n).map (fun i => subM p (nth fl i) (nth gl i)) = upto (fun i => subM p (nth fl i) (nth gl i)) n k := (upto_all _ _ _ (by omega)).symm
      rw [ek]
      have hof : Off a' n' (w.heap.size + 1 + 1) := hpv.offb (by have := hbx.size; simp at this; omega) (by omega)
      exact ⟨_, _, _, rfl, (hs'.setCell hof _).setCell hof _, ((hbx'.below.setCell (p := ⟨w.heap.size + 1 + 1, 0, none⟩) (by simp; omega) _).setCell (p := ⟨w.heap.size + 1 + 1, 1, none⟩) (by simp; omega) _), hpv.new hB.size (by omega)⟩

set_option maxRecDepth 100000 in
set_option maxHeartbeats 1000000 in
theorem zip_Scale (p : Nat) (fa : Option Addr) (fn fcap : Nat) (fl : List Nat) (ga : Option Addr) (gn gcap : Nat) (gl : List Nat) (q : Int) (bf : Nat) (c : Nat) (bc : Nat) (hcc : c < 4294967296) (w : World) (hf : Sl w fa fn fcap fl) (hg : Sl w ga gn gcap gl)
    (hc : w.cell? ⟨bf, 0, none⟩ = some (.int .u32 p)) (hc2 : w.cell? ⟨bc, 0, none⟩ = some (.int .u32 c)) (hp0 : 0 < p) (hp : p < 4294967296) (hgb : ∀ i, nth gl i < 4294967296) (hfn : fn ≤ 1099511627776) (hgn : gn ≤ 1099511627776) :
    Calls Tryd.prog 90 #[.agg #[.int .u32 p, .slice fa fn fcap], .agg #[.int .u32 q, .slice ga gn gcap], .func (.func 91) #[] #[.pointer (some ⟨bf, 0, none⟩), .pointer (some ⟨bc, 0, none⟩)]] w
      (RetP p (trim ((List.range (max fn gn)).map (fun i => mulM p (nth fl i) c))) [] w) := by
  obtain ⟨i0, hi, hz0, hz1, hz2⟩ := info_parts Tryd.infoU
  have hmx : max fn gn ≤ 1099511627776 := Nat.max_le.2 ⟨hfn, hgn⟩
  obtain ⟨n, hn⟩ : ∃ n, n = max fn gn := ⟨_, rfl⟩
  rw [← hn] at hmx ⊢
  have hfle : fn ≤ n := by omega
  have hgle : gn ≤ n := by omega
  have hm1 : (if (fn : Int) < (gn : Int) then (gn : Int) else (fn : Int)) = (n : Int) := by split <;> omega
  have hm2 : (if fn < gn then (gn : Int) else (fn : Int)) = (n : Int) := by split <;> omega
  have HN := Alg.hid hn
  have HGB := Alg.hid hgb
  clear hn hgb
  go_enter Tryd.func90, Tryd.ntmps90
  go_wp2_with (at_make; refine wpList_make_full _ rfl _ _ 23 rfl w.heap.size 22 i0 (.int .u32 0) 1 Tryd.underlying23 hi hz0 hz1 .i64 .i64 _ _ n rfl rfl rfl rfl (by rw [hz2]; omega) (by unfold maxLen; omega) (by simp; omega) ?_; rw [madeCells_u32]; intro w1 hown hgr; clear hm1 hm2; simp only [World.size_alloc] at hown; have hbx := (boxes3 w _ _ _ _ _ _).mono (below_grown hgr); clear hgr; have hA : Arr w1 22 w.heap.size (w.heap.size + 1 + 1 + 1) n n (List.replicate n 0) := ⟨hown, fun i => by rw [← upto_zero (fun _ => 0) n, nth_upto]; split <;> decide⟩; clear hown)
  go_loopw [21] (fun v wr => ∃ k : Nat, v = .int .i64 k ∧ k ≤ n ∧ Arr wr 22 w.heap.size (w.heap.size + 1 + 1 + 1) n n (upto (fun i => mulM p (nth fl i) c) n k) ∧ Boxes w wr [#[.int .u32 (p : Int), .slice fa fn fcap], #[.int .u32 q, .slice ga gn gcap], #[.int .u32 0, .slice none 0 0]]) (fun v _ => n - (intOf v).toNat)
  case atStart => exact ⟨0, rfl, Nat.zero_le _, by rw [upto_zero]; exact hA, hbx⟩
  case round =>
    clear hA hbx
    obtain ⟨k, rfl, hk, hA, hbx⟩ := hrel
    have d0 : wr.cell? ⟨w.heap.size, 0, none⟩ = some (.int .u32 (p : Int)) := hbx.cell' 0 0 _ _ rfl rfl
    have d1 : wr.cell? ⟨w.heap.size, 1, none⟩ = some (.slice fa fn fcap) := hbx.cell' 0 1 _ _ rfl rfl
    have d2 : wr.cell? ⟨w.heap.size + 1, 1, none⟩ = some (.slice ga gn gcap) := hbx.cell' 1 1 _ _ rfl rfl
    have hB := hbx.below
    have hcw : wr.cell? ⟨bf, 0, none⟩ = some (.int .u32 p) := (hB.cell (p := ⟨bf, 0, none⟩) (cell_lt hc)).trans hc
    have hcw2 : wr.cell? ⟨bc, 0, none⟩ = some (.int .u32 c) := (hB.cell (p := ⟨bc, 0, none⟩) (cell_lt hc2)).trans hc2
    by_cases hkn : k < n
    · have cA := hA.cell hkn
      have fA := hA.frozen k
      have HA := Alg.hid hA
      clear hA
      by_cases h1 : k < fn
      · rcases hf.rd with h0 | ⟨b, off, rfl, hcf⟩
        · omega
        have c1 := (hB.cell (p := ⟨b, off + k, none⟩) (cell_lt (hcf k h1))).trans (hcf k h1)
        clear hcf
        by_cases h2 : k < gn
        · rcases hg.rd with h0 | ⟨b', off', rfl, hcg⟩
          · omega
          have c2 := (hB.cell (p := ⟨b', off' + k, none⟩) (cell_lt (hcg k h2))).trans (hcg k h2)
          clear hcg
          go_wp2_with fail
          refine (clo_Scale p (nth fl k) (nth gl k) c bf bc _ hcw hcw2 hp0 hp (hf.lt k) hcc).mono ?_
          rintro e w' ⟨rfl, rfl⟩
          go_wp2
          go_roundw
          case rel => exact ⟨k + 1, by go_num, by omega, by rw [← upto_set]; exact HA.out.set k _ (Nat.lt_trans (mulM_lt _ _ _ hp0) hp), hbx.setCell (by simp) _⟩
          case measure => simp [intOf]; omega
        · have hz := Sl.nth_ge hg (i := k) (by omega)
          have HZ := Alg.hid hz
          clear hz
          go_wp2_with fail
          refine (clo_Scale p (nth fl k) 0 c bf bc _ hcw hcw2 hp0 hp (hf.lt k) hcc).mono ?_
          rintro e w' ⟨rfl, rfl⟩
          go_wp2
          go_roundw
          case rel => exact ⟨k + 1, by go_num, by omega, by rw [← upto_set]; (try rw [HZ.out]); exact HA.out.set k _ (Nat.lt_trans (mulM_lt _ _ _ hp0) hp), hbx.setCell (by simp) _⟩
          case measure => simp [intOf]; omega
      · have hz1 := Sl.nth_ge hf (i := k) (by omega)
        have HZ1 := Alg.hid hz1
        clear hz1
        by_cases h2 : k < gn
        · rcases hg.rd with h0 | ⟨b', off', rfl, hcg⟩
          · omega
          have c2 := (hB.cell (p := ⟨b', off' + k, none⟩) (cell_lt (hcg k h2))).trans (hcg k h2)
          clear hcg
          go_wp2_with fail
          refine (clo_Scale p 0 (nth gl k) c bf bc _ hcw hcw2 hp0 hp (by omega) hcc).mono ?_
          rintro e w' ⟨rfl, rfl⟩
          go_wp2
          go_roundw
          case rel => exact ⟨k + 1, by go_num, by omega, by rw [← upto_set]; (try rw [HZ1.out]); exact HA.out.set k _ (Nat.lt_trans (mulM_lt _ _ _ hp0) hp), hbx.setCell (by simp) _⟩
          case measure => simp [intOf]; omega
        · exfalso; have := HN.out; omega
    · have HL := Alg.hid (hA.sl (by omega))
      clear hA
      go_wp2_with fail
      refine (ppoly_of p _ n n _ _ HL.out).mono ?_
      rintro e w' ⟨a', n', cap', rfl, hs', hb', hpv⟩
      have hbx' := hbx.mono hb'
      have e0 : w'.cell? ⟨w.heap.size + 1 + 1, 0, none⟩ = some (.int .u32 0) := hbx'.cell' 2 0 _ _ rfl rfl
      have e1 : w'.cell? ⟨w.heap.size + 1 + 1, 1, none⟩ = some (.slice none 0 0) := hbx'.cell' 2 1 _ _ rfl rfl
      have e2 : w'.frozen? ⟨w.heap.size + 1 + 1, 0, none⟩ = false := hbx'.frozen' 2 0 (by simp)
      have e3 : w'.frozen? ⟨w.heap.size + 1 + 1, 1, none⟩ = false := hbx'.frozen' 2 1 (by simp)
      go_wp2
      (try simp only [Exit.inBlock, Exit.then])
      refine bodyPost_ret (v := .agg #[.int .u32 (p : Int), .slice a' n' cap']) (by simp [results, Tryd.results90, go_sem, e0, e1]) rfl ?_
      have ek : (List.range n).map (fun i => mulM p (nth fl i) c) = upto (fun i => mulM p (nth fl i) c) n k := (upto_all _ _ _ (by omega)).symm
      rw [ek]
      have hof : Off a' n' (w.heap.size + 1 + 1) := hpv.offb (by have := hbx.size; simp at this; omega) (by omega)
      exact ⟨_, _, _, rfl, (hs'.setCell hof _).setCell hof _, ((hbx'.below.setCell (p := ⟨w.heap.size + 1 + 1, 0, none⟩) (by simp; omega) _).setCell (p := ⟨w.heap.size + 1 + 1, 1, none⟩) (by simp; omega) _), hpv.new hB.size (by omega)⟩

end Go.Proofs.YtbnjmeeaaieicaaDoor
end
section
open Alg
namespace Go.Proofs.YtbnjmeeaaieicaaDoor
open Go.RowKit
set_option maxHeartbeats 400000 in
theorem ppoly_Add (p : Nat) (fa : Option Addr) (fn fcap : Nat) (fl : List Nat) (ga : Option Addr) (gn gcap : Nat) (gl : List Nat) (q : Int) (w : World) (hf : Sl w fa fn fcap fl) (hg : Sl w ga gn gcap gl)
    (hp0 : 0 < p) (hp : p < 4294967296) (hfn : fn ≤ 1099511627776) (hgn : gn ≤ 1099511627776) :
    Calls Tryd.prog 49 #[.agg #[.int .u32 p, .slice fa fn fcap], .agg #[.int .u32 q, .slice ga gn gcap]] w
      (RetP p (trim ((List.range (max fn gn)).map fun i => addM p (nth fl i) (nth gl i))) [] w) := by
  go_enter Tryd.func49, Tryd.ntmps49
  go_wp2_with fail
  have hbx := boxes3 w #[.int .u32 (p : Int), .slice fa fn fcap] #[.int .u32 q, .slice ga gn gcap] #[.int .u32 0, .slice none 0 0] 47 47 47
  refine (zip_Add p fa fn fcap fl ga gn gcap gl q w.heap.size _ (hf.mono hbx.below) (hg.mono hbx.below) (hbx.cell' 0 0 _ _ rfl rfl) hp0 hp hg.lt hfn hgn).mono ?_
  rintro e w' ⟨a', n', cap', rfl, hs', hb', hpv⟩
  have hbx' := hbx.mono hb'
  have hsz := hbx.size
  simp at hsz
  have e0 : w'.cell? ⟨w.heap.size + 1 + 1, 0, none⟩ = some (.int .u32 0) := hbx'.cell' 2 0 _ _ rfl rfl
  have e1 : w'.cell? ⟨w.heap.size + 1 + 1, 1, none⟩ = some (.slice none 0 0) := hbx'.cell' 2 1 _ _ rfl rfl
  have e2 : w'.frozen? ⟨w.heap.size + 1 + 1, 0, none⟩ = false := hbx'.frozen' 2 0 (by simp)
  have e3 : w'.frozen? ⟨w.heap.size + 1 + 1, 1, none⟩ = false := hbx'.frozen' 2 1 (by simp)
  have hof : Off a' n' (w.heap.size + 1 + 1) := hpv.off0 (by simp)
  go_wp2
  (try simp only [Exit.inBlock, Exit.then])
  refine bodyPost_ret (v := .agg #[.int .u32 (p : Int), .slice a' n' cap']) (by simp [results, Tryd.results49, go_sem, e0, e1]) rfl ?_
  exact ⟨_, _, _, rfl, (hs'.setCell hof _).setCell hof _, ((hbx'.below.setCell (p := ⟨w.heap.size + 1 + 1, 0, none⟩) (by simp; omega) _).setCell (p := ⟨w.heap.size + 1 + 1, 1, none⟩) (by simp; omega) _), hpv.mono hbx.below.size⟩
set_option maxHeartbeats 400000 in
theorem ppoly_Sub (p : Nat) (fa : Option Addr) (fn fcap : Nat) (fl : List Nat) (ga : Option Addr) (gn gcap : Nat) (gl : List Nat) (q : Int) (w : World) (hf : Sl w fa fn fcap fl) (hg : Sl w ga gn gcap gl)
    (hp0 : 0 < p) (hp : p < 4294967296) (hgb : ∀ i, nth gl i ≤ p) (hfn : fn ≤ 1099511627776) (hgn : gn ≤ 1099511627776) :
    Calls Tryd.prog 51 #[.agg #[.int .u32 p, .slice fa fn fcap], .agg #[.int .u32 q, .slice ga gn gcap]] w
      (RetP p (trim ((List.range (max fn gn)).map fun i => subM p (nth fl i) (nth gl i))) [] w) := by
  have HGB := Alg.hid hgb
  clear hgb
  go_enter Tryd.func51, Tryd.ntmps51
  go_wp2_with fail
  have hbx := boxes3 w #[.int .u32 (p : Int), .slice fa fn fcap] #[.int .u32 q, .slice ga gn gcap] #[.int .u32 0, .slice none 0 0] 47 47 47
  refine (zip_Sub p fa fn fcap fl ga gn gcap gl q w.heap.size _ (hf.mono hbx.below) (hg.mono hbx.below) (hbx.cell' 0 0 _ _ rfl rfl) hp0 hp HGB.out hfn hgn).mono ?_
  rintro e w' ⟨a', n', cap', rfl, hs', hb', hpv⟩
  have hbx' := hbx.mono hb'
  have hsz := hbx.size
  simp at hsz
  have e0 : w'.cell? ⟨w.heap.size + 1 + 1, 0, none⟩ = some (.int .u32 0) := hbx'.cell' 2 0 _ _ rfl rfl
  have e1 : w'.cell? ⟨w.heap.size + 1 + 1, 1, none⟩ = some (.slice none 0 0) := hbx'.cell' 2 1 _ _ rfl rfl
  have e2 : w'.frozen? ⟨w.heap.size + 1 + 1, 0, none⟩ = false := hbx'.frozen' 2 0 (by simp)
  have e3 : w'.frozen? ⟨w.heap.size + 1 + 1, 1, none⟩ = false := hbx'.frozen' 2 1 (by simp)
  have hof : Off a' n' (w.heap.size + 1 + 1) := hpv.off0 (by simp)
  go_wp2
  (try simp only [Exit.inBlock, Exit.then])
  refine bodyPost_ret (v := .agg #[.int .u32 (p : Int), .slice a' n' cap']) (by simp [results, Tryd.results51, go_sem, e0, e1]) rfl ?_
  exact ⟨_, _, _, rfl, (hs'.setCell hof _).setCell hof _, ((hbx'.below.setCell (p := ⟨w.heap.size + 1 + 1, 0, none⟩) (by simp; omega) _).setCell (p := ⟨w.heap.size + 1 + 1, 1, none⟩) (by simp; omega) _), hpv.mono hbx.below.size⟩
set_option maxHeartbeats 400000 in
theorem ppoly_Scale (p c : Nat) (fa : Option Addr) (fn fcap : Nat) (fl : List Nat) (w : World) (hf : Sl w fa fn fcap fl)
    (hp0 : 0 < p) (hp : p < 4294967296) (hcc : c < 4294967296) (hfn : fn ≤ 1099511627776) :
    Calls Tryd.prog 47 #[.agg #[.int .u32 p, .slice fa fn fcap], .int .u32 c] w
      (RetP p (trim ((List.range fn).map fun i => mulM p (nth fl i) c)) [] w) := by
  have hbx := boxes3 w #[.int .u32 (p : Int), .slice fa fn fcap] #[.int .u32 (c : Int)] #[.int .u32 0, .slice none 0 0] 47 22 47
  have hbx2 := hbx.less 2
  have K : Hid (∀ W, Boxes w W [#[.int .u32 (p : Int), .slice fa fn fcap], #[.int .u32 (c : Int)]] → W.cell? ⟨w.heap.size, 0, none⟩ = some (.int .u32 (p : Int)) ∧ W.cell? ⟨w.heap.size, 1, none⟩ = some (.slice fa fn fcap) ∧ Boxes w W [#[.int .u32 (p : Int), .slice fa fn fcap], #[.int .u32 (c : Int)]]) :=
    fun W h => ⟨h.cell' 0 0 _ _ rfl rfl, h.cell' 0 1 _ _ rfl rfl, h⟩
  go_enter Tryd.func47, Tryd.ntmps47
  go_wp2
  go_region_held3 (fun W => W.cell? ⟨w.heap.size, 0, none⟩ = some (.int .u32 (p : Int)) ∧ W.cell? ⟨w.heap.size, 1, none⟩ = some (.slice fa fn fcap) ∧ Boxes w W [#[.int .u32 (p : Int), .slice fa fn fcap], #[.int .u32 (c : Int)]])
    (first | (exact K.out _ (by assumption)) | (exact K.out _ hbx2.drew) | (exact K.out _ (Boxes.setCell (Boxes.setCell (by assumption) (by simp) _) (by simp) _)))
    (first
      | (go_at_call 85; refine (ppoly_of p none 0 0 [] _ (Sl.of_nil _ _ _ (by omega))).mono ?_; rintro e w1 ⟨a1, n1, cap1, rfl, hs1, hb1, hpv1⟩; have hx1 := hbx.drew.mono hb1; have hx1' := hx1.less 2)
      | (go_at_call 90; refine (zip_Scale p fa fn fcap fl a1 n1 cap1 [] p w.heap.size c (w.heap.size + 1) hcc _ (hf.mono hx1.below) hs1 (hx1.cell' 0 0 _ _ rfl rfl) (hx1.cell' 1 0 _ _ rfl rfl) hp0 hp hs1.lt hfn (by have := hs1.len; simp [trim] at this; omega)).mono ?_; rintro e w2 ⟨a', n', cap', rfl, hs', hb', hpv⟩; have hx2 := hx1.mono hb'; have hx2' := hx2.less 2; have e0 : w2.cell? ⟨w.heap.size + 1 + 1, 0, none⟩ = some (.int .u32 0) := hx2.cell' 2 0 _ _ rfl rfl; have e1 : w2.cell? ⟨w.heap.size + 1 + 1, 1, none⟩ = some (.slice none 0 0) := hx2.cell' 2 1 _ _ rfl rfl; have e2 : w2.frozen? ⟨w.heap.size + 1 + 1, 0, none⟩ = false := hx2.frozen' 2 0 (by simp); have e3 : w2.frozen? ⟨w.heap.size + 1 + 1, 1, none⟩ = false := hx2.frozen' 2 1 (by simp)))
  all_goals
    go_wp2
    (try simp only [Exit.inBlock, Exit.then])
    refine bodyPost_ret (v := .agg #[.int .u32 (p : Int), .slice a' n' cap']) (by simp [results, Tryd.results47, go_sem, e0, e1]) rfl ?_
    have hn1 : n1 = 0 := by have := hs1.len; simpa [trim] using this.symm
    subst hn1
    rw [Nat.max_zero] at hs'
    have hof : Off a' n' (w.heap.size + 1 + 1) := hpv.off0 (by have := hx1.size; simp at this; omega)
    exact ⟨_, _, _, rfl, (hs'.setCell hof _).setCell hof _, ((hx2.below.setCell (p := ⟨w.heap.size + 1 + 1, 0, none⟩) (by simp; omega) _).setCell (p := ⟨w.heap.size + 1 + 1, 1, none⟩) (by simp; omega) _), hpv.mono hx1.below.size⟩
end Go.Proofs.YtbnjmeeaaieicaaDoor
end
section
open Alg
namespace Go.Proofs.YtbnjmeeaaieicaaDoor
open Go.RowKit
set_option maxHeartbeats 400000 in
theorem ppoly_Mul0 (p : Nat) (fa : Option Addr) (fn fcap : Nat) (ga : Option Addr) (gn gcap : Nat) (q : Int) (w : World) (h0 : fn = 0 ∨ gn = 0) (hfn : fn ≤ 1099511627776) (hgn : gn ≤ 1099511627776) :
    Calls Tryd.prog 53 #[.agg #[.int .u32 p, .slice fa fn fcap], .agg #[.int .u32 q, .slice ga gn gcap]] w (RetP p [] [] w) := by
  by_cases hf0 : fn = 0
  · subst hf0
    have hbx := boxes3 w #[.int .u32 (p : Int), .slice fa 0 fcap] #[.int .u32 q, .slice ga gn gcap] #[.int .u32 0, .slice none 0 0] 47 47 47
    go_enter Tryd.func53, Tryd.ntmps53
    go_wp2_with fail
    refine (ppoly_of p none 0 0 [] _ (Sl.of_nil _ _ _ (by omega))).mono ?_
    rintro e w1 ⟨a1, n1, cap1, rfl, hs1, hb1, hpv1⟩
    have hx1 := hbx.mono hb1
    have e0 : w1.cell? ⟨w.heap.size + 1 + 1, 0, none⟩ = some (.int .u32 0) := hx1.cell' 2 0 _ _ rfl rfl
    have e1 : w1.cell? ⟨w.heap.size + 1 + 1, 1, none⟩ = some (.slice none 0 0) := hx1.cell' 2 1 _ _ rfl rfl
    have e2 : w1.frozen? ⟨w.heap.size + 1 + 1, 0, none⟩ = false := hx1.frozen' 2 0 (by simp)
    have e3 : w1.frozen? ⟨w.heap.size + 1 + 1, 1, none⟩ = false := hx1.frozen' 2 1 (by simp)
    go_wp2
    (try simp only [Exit.inBlock, Exit.then])
    refine bodyPost_ret (v := .agg #[.int .u32 (p : Int), .slice a1 n1 cap1]) (by simp [results, Tryd.results53, go_sem, e0, e1]) rfl ?_
    have hn1 : n1 = 0 := by have := hs1.len; simpa [trim] using this.symm
    subst hn1
    exact ⟨_, _, _, rfl, (hs1.setCell (Or.inl rfl) _).setCell (Or.inl rfl) _, ((hx1.below.setCell (p := ⟨w.heap.size + 1 + 1, 0, none⟩) (by simp; omega) _).setCell (p := ⟨w.heap.size + 1 + 1, 1, none⟩) (by simp; omega) _), Prov.empty⟩
  · have hg0 : gn = 0 := h0.resolve_left hf0
    subst hg0
    have hbx := boxes3 w #[.int .u32 (p : Int), .slice fa fn fcap] #[.int .u32 q, .slice ga 0 gcap] #[.int .u32 0, .slice none 0 0] 47 47 47
    have hfb : ((fn : Int) == 0) = false := by simp; omega
    go_enter Tryd.func53, Tryd.ntmps53
    go_wp2_with fail
    refine (ppoly_of p none 0 0 [] _ (Sl.of_nil _ _ _ (by omega))).mono ?_
    rintro e w1 ⟨a1, n1, cap1, rfl, hs1, hb1, hpv1⟩
    have hx1 := hbx.mono hb1
    have e0 : w1.cell? ⟨w.heap.size + 1 + 1, 0, none⟩ = some (.int .u32 0) := hx1.cell' 2 0 _ _ rfl rfl
    have e1 : w1.cell? ⟨w.heap.size + 1 + 1, 1, none⟩ = some (.slice none 0 0) := hx1.cell' 2 1 _ _ rfl rfl
    have e2 : w1.frozen? ⟨w.heap.size + 1 + 1, 0, none⟩ = false := hx1.frozen' 2 0 (by simp)
    have e3 : w1.frozen? ⟨w.heap.size + 1 + 1, 1, none⟩ = false := hx1.frozen' 2 1 (by simp)
    go_wp2
    (try simp only [Exit.inBlock, Exit.then])
    refine bodyPost_ret (v := .agg #[.int .u32 (p : Int), .slice a1 n1 cap1]) (by simp [results, Tryd.results53, go_sem, e0, e1]) rfl ?_
    have hn1 : n1 = 0 := by have := hs1.len; simpa [trim] using this.symm
    subst hn1
    exact ⟨_, _, _, rfl, (hs1.setCell (Or.inl rfl) _).setCell (Or.inl rfl) _, ((hx1.below.setCell (p := ⟨w.heap.size + 1 + 1, 0, none⟩) (by simp; omega) _).setCell (p := ⟨w.heap.size + 1 + 1, 1, none⟩) (by simp; omega) _), Prov.empty⟩
set_option maxRecDepth 100000 in
set_option maxHeartbeats 1000000 in
theorem ppoly_Mul1 (p : Nat) (fa : Option Addr) (fn fcap : Nat) (fl : List Nat) (ga : Option Addr) (gn gcap : Nat) (gl : List Nat) (q : Int) (w : World) (hf : Sl w fa fn fcap fl) (hg : Sl w ga gn gcap gl)
    (hf0 : 0 < fn) (hg0 : 0 < gn) (hp0 : 0 < p) (hp : p < 4294967296) (hfn : fn ≤ 1099511627776) (hgn : gn ≤ 1099511627776) :
    Calls Tryd.prog 53 #[.agg #[.int .u32 p, .slice fa fn fcap], .agg #[.int .u32 q, .slice ga gn gcap]] w (RetP p (trim (outerM p fl gl (fn + gn - 1) fn)) [] w) := by
  obtain ⟨i0, hi, hz0, hz1, hz2⟩ := info_parts Tryd.infoU
  obtain ⟨n, hn⟩ : ∃ n, n = fn + gn - 1 := ⟨_, rfl⟩
  rw [← hn]
  have hn1 : n + 1 ≤ fn + gn := by omega
  have hn2 : fn + gn ≤ n + 1 := by omega
  clear hn
  have hL : (fn : Int) + (gn : Int) - 1 = (n : Int) := by omega
  have hfb : ((fn : Int) == 0) = false := by simp; omega
  have hgb : ((gn : Int) == 0) = false := by simp; omega
  have HL := Alg.hid hL
  clear hL
  rcases hf.rd with h0 | ⟨b, off, rfl, hcf⟩
  · omega
  rcases hg.rd with h0 | ⟨b', off', rfl, hcg⟩
  · omega
  have HF := Alg.hid hcf
  have HG := Alg.hid hcg
  clear hcf hcg
  go_enter Tryd.func53, Tryd.ntmps53
  go_wp2_with (at_make; refine wpList_make_full _ rfl _ _ 23 rfl w.heap.size 22 i0 (.int .u32 0) 1 Tryd.underlying23 hi hz0 hz1 .i64 .i64 _ _ n rfl rfl HL.out HL.out (by rw [hz2]; omega) (by unfold maxLen; omega) (by simp; omega) ?_; rw [madeCells_u32]; intro w1 hown hgr; simp only [World.size_alloc] at hown; have hbx := (boxes3 w _ _ _ _ _ _).mono (below_grown hgr); clear hgr; have hA : Arr w1 22 w.heap.size (w.heap.size + 1 + 1 + 1) n n (List.replicate n 0) := ⟨hown, fun i => by rw [← upto_zero (fun _ => 0) n, nth_upto]; split <;> decide⟩; clear hown; have d0 : w1.cell? ⟨w.heap.size, 0, none⟩ = some (.int .u32 (p : Int)) := hbx.cell' 0 0 _ _ rfl rfl; have d1 : w1.cell? ⟨w.heap.size, 1, none⟩ = some (.slice (some ⟨b, off, none⟩) fn fcap) := hbx.cell' 0 1 _ _ rfl rfl)
  go_loopw [35] (fun v wr => ∃ i : Nat, v = .int .i64 i ∧ i ≤ fn ∧ Arr wr 22 w.heap.size (w.heap.size + 1 + 1 + 1) n n (outerM p fl gl n i) ∧ Boxes w wr [#[.int .u32 (p : Int), .slice (some ⟨b, off, none⟩) fn fcap], #[.int .u32 q, .slice (some ⟨b', off', none⟩) gn gcap], #[.int .u32 0, .slice none 0 0]]) (fun v _ => fn - (intOf v).toNat)
  case atStart => exact ⟨0, rfl, Nat.zero_le _, hA, hbx⟩
  case round =>
    clear hA hbx d0 d1
    obtain ⟨i, rfl, hik, hA, hbx⟩ := hrel
    obtain ⟨wo, rfl⟩ : ∃ wo : World, wo = wr := ⟨_, rfl⟩
    have d0 : wo.cell? ⟨w.heap.size, 0, none⟩ = some (.int .u32 (p : Int)) := hbx.cell' 0 0 _ _ rfl rfl
    have d2 : wo.cell? ⟨w.heap.size + 1, 1, none⟩ = some (.slice (some ⟨b', off', none⟩) gn gcap) := hbx.cell' 1 1 _ _ rfl rfl
    have hB := hbx.below
    by_cases hin : i < fn
    · have c1 : wo.cell? ⟨b, off + i, none⟩ = some (.int .u32 (nth fl i : Nat)) := (hB.cell (p := ⟨b, off + i, none⟩) (cell_lt (HF.out i hin))).trans (HF.out i hin)
      have HA := Alg.hid hA
      clear hA
      go_wp2
      go_loopw [43] (fun v wr => ∃ k : Nat, v = .int .i64 k ∧ k ≤ gn ∧ Arr wr 22 w.heap.size (w.heap.size + 1 + 1 + 1) n n (innerM p (nth fl i) i gl (outerM p fl gl n i) k) ∧ Boxes w wr [#[.int .u32 (p : Int), .slice (some ⟨b, off, none⟩) fn fcap], #[.int .u32 q, .slice (some ⟨b', off', none⟩) gn gcap], #[.int .u32 0, .slice none 0 0]]) (fun v _ => gn - (intOf v).toNat)
      case atStart => exact ⟨0, rfl, Nat.zero_le _, HA.out, hbx⟩
      case round =>
        clear hbx d0 d2 hB c1 HA
        obtain ⟨k, rfl, hkk, hA, hbx⟩ := hrel
        have d0 : wr.cell? ⟨w.heap.size, 0, none⟩ = some (.int .u32 (p : Int)) := hbx.cell' 0 0 _ _ rfl rfl
        have hB := hbx.below
        by_cases hkn : k < gn
        · have c2 : wr.cell? ⟨b', off' + k, none⟩ = some (.int .u32 (nth gl k : Nat)) := (hB.cell (p := ⟨b', off' + k, none⟩) (cell_lt (HG.out k hkn))).trans (HG.out k hkn)
          have hik2 : i + k < n := by omega
          have cA := hA.cell hik2
          have fA := hA.frozen (i + k)
          have lA := hA.lt (i + k)
          have HA := Alg.hid hA
          clear hA
          go_wp2
          have s1 : (0 : Int) ≤ (i : Int) + k := by omega
          have s2 : (i : Int) + k < n := by omega
          have s3 : ((i : Int) + k).toNat = i + k := by omega
          have s4 : IntKind.i64.wrap ((i : Int) + k) = (i : Int) + k := IntWalk.i64_in _ (by omega)
          go_still_tail 19, (by kernel_rfl)
          still_call (modp_Mul p (nth fl i) (nth gl k) _ hp0 hp (hf.lt i) (hg.lt k))
          repeat still_step
          still_call (modp_Add p (nth (innerM p (nth fl i) i gl (outerM p fl gl n i) k) (i + k)) (mulM p (nth fl i) (nth gl k)) _ hp0 hp lA (Nat.lt_trans (mulM_lt _ _ _ hp0) hp))
          repeat still_step
          refine wpStill_nil ?_
          clear s4 s3
          change wpList _ _ _ _ _ wr.drew
          go_wp2
          go_roundw
          case rel => exact ⟨k + 1, by go_num, by omega, (HA.out.set (i + k) _ (Nat.lt_trans (addM_lt _ _ _ hp0) hp)).drew, (hbx.setCell (by simp) _).drew⟩
          case measure => simp [intOf]; omega
        · go_wp2
          go_roundw
          case rel =>
            have e : k = gn := by omega
            have el := hg.len
            exact ⟨i + 1, by go_num, by omega, by show Arr _ _ _ _ _ _ (innerM p (nth fl i) i gl (outerM p fl gl n i) gl.length); rw [el, ← e]; exact hA, hbx⟩
          case measure => simp [intOf]; omega
    · have ei : i = fn := by omega
      have HS := Alg.hid (hA.sl (by omega))
      clear hA
      go_wp2_with fail
      refine (ppoly_of p _ n n _ _ HS.out).mono ?_
      rintro e w' ⟨a', n', cap', rfl, hs', hb', hpv⟩
      have hbx' := hbx.mono hb'
      have e0 : w'.cell? ⟨w.heap.size + 1 + 1, 0, none⟩ = some (.int .u32 0) := hbx'.cell' 2 0 _ _ rfl rfl
      have e1 : w'.cell? ⟨w.heap.size + 1 + 1, 1, none⟩ = some (.slice none 0 0) := hbx'.cell' 2 1 _ _ rfl rfl
      have e2 : w'.frozen? ⟨w.heap.size + 1 + 1, 0, none⟩ = false := hbx'.frozen' 2 0 (by simp)
      have e3 : w'.frozen? ⟨w.heap.size + 1 + 1, 1, none⟩ = false := hbx'.frozen' 2 1 (by simp)
      have EI := Alg.hid ei
      clear ei
      go_wp2
      (try simp only [Exit.inBlock, Exit.then])
      refine bodyPost_ret (v := .agg #[.int .u32 (p : Int), .slice a' n' cap']) (by simp [results, Tryd.results53, go_sem, e0, e1]) rfl ?_
      have hof : Off a' n' (w.heap.size + 1 + 1) := hpv.offb (by have := hbx.size; simp at this; omega) (by omega)
      rw [← EI.out]
      exact ⟨_, _, _, rfl, (hs'.setCell hof _).setCell hof _, ((hbx'.below.setCell (p := ⟨w.heap.size + 1 + 1, 0, none⟩) (by simp; omega) _).setCell (p := ⟨w.heap.size + 1 + 1, 1, none⟩) (by simp; omega) _), hpv.new hB.size (by omega)⟩
theorem ppoly_Mul (p : Nat) (fa : Option Addr) (fn fcap : Nat) (fl : List Nat) (ga : Option Addr) (gn gcap : Nat) (gl : List Nat) (q : Int) (w : World) (hf : Sl w fa fn fcap fl) (hg : Sl w ga gn gcap gl)
    (hp0 : 0 < p) (hp : p < 4294967296) (hfn : fn ≤ 1099511627776) (hgn : gn ≤ 1099511627776) :
    Calls Tryd.prog 53 #[.agg #[.int .u32 p, .slice fa fn fcap], .agg #[.int .u32 q, .slice ga gn gcap]] w (RetP p (mulL p fl gl) [] w) := by
  unfold mulL
  rw [hf.len, hg.len]
  by_cases h : fn = 0 ∨ gn = 0
  · rw [if_pos h]; exact ppoly_Mul0 p fa fn fcap ga gn gcap q w h hfn hgn
  · rw [if_neg h]; exact ppoly_Mul1 p fa fn fcap fl ga gn gcap gl q w hf hg (by omega) (by omega) hp0 hp hfn hgn
end Go.Proofs.YtbnjmeeaaieicaaDoor
end
