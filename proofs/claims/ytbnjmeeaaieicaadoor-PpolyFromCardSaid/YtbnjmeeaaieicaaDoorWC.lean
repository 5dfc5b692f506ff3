/- Contracts of ppoly.From, Up, Sym and of the reference's. -/
import Derived.Test.YtbnjmeeaaieicaaDoorA31
import Derived.Test.YtbnjmeeaaieicaaDoorG5
open Alg Go Go.RowKit
namespace Go.Proofs.YtbnjmeeaaieicaaDoor
open Go.RowKit
set_option maxRecDepth 100000 in
set_option maxHeartbeats 1000000 in
theorem ppoly_From (p : Nat) (fa : Option Addr) (fn fcap : Nat) (FL : List (Bool × List Nat)) (w : World) (hF : SlK kInt w fa fn fcap FL) (hfn : fn ≤ 100000) (hok : ∀ x ∈ FL, Canon 4294967296 x.2 ∧ x.2.length ≤ 100000) (hp0 : 0 < p) (hp : p < 4294967296) :
    Calls Tryd.prog 60 #[.int .u32 (p : Int), .slice fa fn fcap] w (RetP p (imL p FL) [] w) := by
  obtain ⟨i0, hi, hz0, hz1, hz2⟩ := info_parts Tryd.infoU9
  have HI := Alg.hid hi
  have HQ0 := Alg.hid hz0
  have HQ1 := Alg.hid hz1
  have HQ2 := Alg.hid hz2
  have HOK := Alg.hid hok
  clear hi hz0 hz1 hz2 hok
  have lF := hF.len
  have leF := hF.le
  have lcF := hF.cap
  have HIM : Hid (trim (upto (fun i => remZ p (FL.getD i (false, [])).1 (valN (FL.getD i (false, [])).2)) fn fn) = imL p FL) := by
    show _ = _
    rw [upto_all _ _ _ (Nat.le_refl _), ← lF]
    unfold imL
    congr 1
    refine List.ext_getElem (by simp) fun i h1 h2 => ?_
    have h3 : i < FL.length := by simpa using h2
    simp [List.getD_eq_getElem?_getD, h3]
  go_enter Tryd.func60, Tryd.ntmps60
  go_wp2_with (at_make; refine wpList_make_full _ rfl _ _ 23 rfl w.heap.size 22 i0 (.int .u32 0) 1 Tryd.underlying23 HI.out HQ0.out HQ1.out .i64 .i64 _ _ fn rfl rfl rfl rfl (by rw [HQ2.out]; omega) (by unfold maxLen; omega) (by simp) ?_; rw [madeCells_u32]; intro w1 hown hgr; simp only [World.size_alloc] at hown; have hbx := Alg.hid ((boxes1 w #[.int .u32 0, .slice none 0 0] 47).mono (below_grown hgr)); clear hgr; have hA : Hid (Arr w1 22 w.heap.size (w.heap.size + 1) fn fn (List.replicate fn 0)) := ⟨hown, fun i => by rw [← upto_zero (fun _ => 0) fn, nth_upto]; split <;> decide⟩; clear hown)
  go_loopw [13] (fun v wr => ∃ k : Nat, v = .int .i64 k ∧ k ≤ fn ∧ Hid (Arr wr 22 w.heap.size (w.heap.size + 1) fn fn (upto (fun i => remZ p (FL.getD i (false, [])).1 (valN (FL.getD i (false, [])).2)) fn k)) ∧ Hid (Boxes w wr [#[.int .u32 0, .slice none 0 0]])) (fun v _ => fn - (intOf v).toNat)
  case atStart => exact ⟨0, rfl, Nat.zero_le _, by rw [upto_zero]; exact hA, hbx⟩
  case round =>
    clear hA hbx
    obtain ⟨k, rfl, hk, hA, hx⟩ := hrel
    by_cases hkn : k < fn
    · have hkn' : (k : Int) < (fn : Int) := by omega
      have hk0 : (0 : Int) ≤ (k : Int) := by omega
      rcases hF.rd with h | ⟨b, off, rfl, _⟩
      · omega
      have hkL : k < FL.length := by omega
      obtain ⟨a, m, c, k0, k1, g1⟩ := (hF.mono hx.out.below).int k hkL
      have eg : FL.getD k (false, []) = FL[k] := by rw [List.getD_eq_getElem?_getD, List.getElem?_eq_getElem hkL]; rfl
      have hFk : Hid ((fun i => remZ p (FL.getD i (false, [])).1 (valN (FL.getD i (false, [])).2)) k = remZ p FL[k].1 (valN FL[k].2)) := by show remZ p (FL.getD k (false, [])).1 (valN (FL.getD k (false, [])).2) = _; rw [eg]
      have hcan := HOK.out FL[k] (List.getElem_mem hkL)
      have HCN := Alg.hid hcan.1
      have lg := g1.len
      have hml : m ≤ 100000 := by rw [← lg]; exact hcan.2
      generalize FL[k].1 = neg at k0 hFk
      generalize FL[k].2 = la at g1 hFk HCN lg
      have hrl := remZ_lt (A := valN la) (neg := neg) hp0
      clear eg hcan
      have x1 := Box.new wr #[.bool neg, .slice a m c] 25
      have hb1 := (Below.refl _ wr).alloc (Nat.le_refl _) (.cells #[.bool neg, .slice a m c] 25)
      have q0 := x1.cell 0 _ rfl
      have q1 := x1.cell 1 _ rfl
      go_wp2_with fail
      have hx1 := hx.out.mono hb1
      have hA1 := hA.out.mono hb1
      generalize hW1 : wr.alloc (.cells #[.bool neg, .slice a m c] 25) = w2 at hx1 hA1 q0 q1 ⊢
      refine (modp_From p neg a m c la w2 (g1.mono (by rw [← hW1]; exact hb1)) (by omega) HCN.out hp0 hp).mono ?_
      rintro e w3 ⟨rfl, hb3⟩
      have hx3 := hx1.mono hb3
      have hA3 := hA1.mono hb3
      have cA := hA3.cell hkn
      have fA := hA3.frozen k
      have HX3 := Alg.hid (hx3.setCell (g := w.heap.size + 1) (i := k) (by simp) (.int .u32 (remZ p neg (valN la) : Nat)))
      have HA3 : Hid (Arr (w3.setCell ⟨w.heap.size + 1, k, none⟩ (.int .u32 (remZ p neg (valN la) : Nat))) 22 w.heap.size (w.heap.size + 1) fn fn (upto (fun i => remZ p (FL.getD i (false, [])).1 (valN (FL.getD i (false, [])).2)) fn (k + 1))) := by
        show Arr _ _ _ _ _ _ _
        rw [← upto_set, hFk.out]
        exact hA3.set k _ (by omega)
      clear q0 q1 k0 k1 hb1 hW1 hx1 hA1 hx3 hA3 hb3 x1 g1 hx hA
      go_wp2
      go_roundw
      case rel => exact ⟨k + 1, by go_num, by omega, HA3, HX3⟩
      case measure => simp [intOf]; omega
    · obtain rfl : k = fn := by omega
      have hkn' : ¬ (k : Int) < (k : Int) := by omega
      have HL := Alg.hid (hA.out.sl (by omega))
      have hxx := hx.out
      clear hA hx
      go_wp2_with fail
      refine (ppoly_of p _ k k _ _ HL.out).mono ?_
      rw [HIM.out]
      rintro e w' ⟨a', n', cap', rfl, hs', hb', hpv⟩
      have hbx' := hxx.mono hb'
      have e0 : w'.cell? ⟨w.heap.size, 0, none⟩ = some (.int .u32 0) := hbx'.cell' 0 0 _ _ rfl rfl
      have e1 : w'.cell? ⟨w.heap.size, 1, none⟩ = some (.slice none 0 0) := hbx'.cell' 0 1 _ _ rfl rfl
      have e2 : w'.frozen? ⟨w.heap.size, 0, none⟩ = false := hbx'.frozen' 0 0 (by simp)
      have e3 : w'.frozen? ⟨w.heap.size, 1, none⟩ = false := hbx'.frozen' 0 1 (by simp)
      go_wp2
      (try simp only [Exit.inBlock, Exit.then])
      refine bodyPost_ret (v := .agg #[.int .u32 (p : Int), .slice a' n' cap']) (by simp [results, Tryd.results60, go_sem, e0, e1]) rfl ?_
      have hof : Off a' n' w.heap.size := hpv.offb (by have := hxx.size; simp only [List.length_cons, List.length_nil] at this; omega) (by omega)
      exact ⟨_, _, _, rfl, (hs'.setCell hof _).setCell hof _, (hbx'.below.setCell (p := ⟨w.heap.size, 0, none⟩) (Nat.le_refl _) _).setCell (p := ⟨w.heap.size, 1, none⟩) (Nat.le_refl _) _, hpv.new (by have := hxx.size; omega) (by omega)⟩
set_option maxRecDepth 100000 in
set_option maxHeartbeats 1000000 in
theorem ref_From (p : Nat) (fa : Option Addr) (fn fcap : Nat) (FL : List (Bool × List Nat)) (w : World) (hF : SlK kInt w fa fn fcap FL) (hfn : fn ≤ 100000) (hok : ∀ x ∈ FL, Canon 4294967296 x.2 ∧ x.2.length ≤ 100000) (hp0 : 0 < p) (hp : p < 4294967296) :
    Calls Tryd.prog 61 #[.int .u32 (p : Int), .slice fa fn fcap] w (RetP p (imL p FL) [] w) := by
  obtain ⟨i0, hi, hz0, hz1, hz2⟩ := info_parts Tryd.infoU9
  have HI := Alg.hid hi
  have HQ0 := Alg.hid hz0
  have HQ1 := Alg.hid hz1
  have HQ2 := Alg.hid hz2
  have HOK := Alg.hid hok
  clear hi hz0 hz1 hz2 hok
  have lF := hF.len
  have leF := hF.le
  have lcF := hF.cap
  have HIM : Hid (trim (upto (fun i => remZ p (FL.getD i (false, [])).1 (valN (FL.getD i (false, [])).2)) fn fn) = imL p FL) := by
    show _ = _
    rw [upto_all _ _ _ (Nat.le_refl _), ← lF]
    unfold imL
    congr 1
    refine List.ext_getElem (by simp) fun i h1 h2 => ?_
    have h3 : i < FL.length := by simpa using h2
    simp [List.getD_eq_getElem?_getD, h3]
  go_enter Tryd.func61, Tryd.ntmps61
  go_wp2_with (at_make; refine wpList_make_full _ rfl _ _ 23 rfl w.heap.size 22 i0 (.int .u32 0) 1 Tryd.underlying23 HI.out HQ0.out HQ1.out .i64 .i64 _ _ fn rfl rfl rfl rfl (by rw [HQ2.out]; omega) (by unfold maxLen; omega) (by simp) ?_; rw [madeCells_u32]; intro w1 hown hgr; simp only [World.size_alloc] at hown; have hbx := Alg.hid ((boxes1 w #[.int .u32 0, .slice none 0 0] 47).mono (below_grown hgr)); clear hgr; have hA : Hid (Arr w1 22 w.heap.size (w.heap.size + 1) fn fn (List.replicate fn 0)) := ⟨hown, fun i => by rw [← upto_zero (fun _ => 0) fn, nth_upto]; split <;> decide⟩; clear hown)
  go_loopw [6] (fun v wr => ∃ k : Nat, v = .int .i64 k ∧ k ≤ fn ∧ Hid (Arr wr 22 w.heap.size (w.heap.size + 1) fn fn (upto (fun i => remZ p (FL.getD i (false, [])).1 (valN (FL.getD i (false, [])).2)) fn k)) ∧ Hid (Boxes w wr [#[.int .u32 0, .slice none 0 0]])) (fun v _ => fn - (intOf v).toNat)
  case atStart => exact ⟨0, rfl, Nat.zero_le _, by rw [upto_zero]; exact hA, hbx⟩
  case round =>
    clear hA hbx
    obtain ⟨k, rfl, hk, hA, hx⟩ := hrel
    by_cases hkn : k < fn
    · have hkn' : (k : Int) < (fn : Int) := by omega
      have hk0 : (0 : Int) ≤ (k : Int) := by omega
      rcases hF.rd with h | ⟨b, off, rfl, _⟩
      · omega
      have hkL : k < FL.length := by omega
      obtain ⟨a, m, c, k0, k1, g1⟩ := (hF.mono hx.out.below).int k hkL
      have eg : FL.getD k (false, []) = FL[k] := by rw [List.getD_eq_getElem?_getD, List.getElem?_eq_getElem hkL]; rfl
      have hFk : Hid ((fun i => remZ p (FL.getD i (false, [])).1 (valN (FL.getD i (false, [])).2)) k = remZ p FL[k].1 (valN FL[k].2)) := by show remZ p (FL.getD k (false, [])).1 (valN (FL.getD k (false, [])).2) = _; rw [eg]
      have hcan := HOK.out FL[k] (List.getElem_mem hkL)
      have HCN := Alg.hid hcan.1
      have lg := g1.len
      have hml : m ≤ 100000 := by rw [← lg]; exact hcan.2
      generalize FL[k].1 = neg at k0 hFk
      generalize FL[k].2 = la at g1 hFk HCN lg
      have hrl := remZ_lt (A := valN la) (neg := neg) hp0
      clear eg hcan
      have hrz : Hid (remZ p neg (valN la) = if neg = true ∧ hornP p la 0 ≠ 0 then p - hornP p la 0 else hornP p la 0) := by show _ = _; rw [hornP_zero]; rfl
      have htop : Hid (hornP p la m = 0) := by show _ = _; rw [← lg]; exact hornP_top p la
      have G1 := Alg.hid g1
      have hpz : ((p : Int) == 0) = false := by simp; omega
      have hpz' : ¬ (p : Int) = 0 := by omega
      have hpn : ¬ p = 0 := by omega
      clear g1
      go_wp2
      go_loop [7, 8] (fun u v => ∃ K : Nat, u = .int .u64 (hornP p la K : Nat) ∧ v = .int .i64 ((K : Int) - 1) ∧ K ≤ m) (fun _ v => (intOf v + 1).toNat)
      case atStart => exact ⟨m, by rw [htop.out]; rfl, rfl, Nat.le_refl _⟩
      case round =>
        obtain ⟨K, rfl, rfl, hK⟩ := hrel
        rcases Nat.eq_zero_or_pos K with h0 | h0
        · subst h0
          have hge : ¬ ((0 : Nat) : Int) - 1 ≥ 0 := by omega
          have hHl : hornP p la 0 < p := Nat.mod_lt _ hp0
          obtain ⟨hv, ehv⟩ : ∃ h, h = hornP p la 0 := ⟨_, rfl⟩
          obtain ⟨V, hV⟩ : ∃ V, V = remZ p neg (valN la) := ⟨_, rfl⟩
          have hrz := hrz.out
          have hFk := hFk.out
          rw [← ehv, ← hV] at hrz
          rw [← hV] at hFk hrl
          rw [← ehv] at hHl ⊢
          have cA := hA.out.cell hkn
          have fA := hA.out.frozen k
          have HX3 := Alg.hid (hx.out.setCell (g := w.heap.size + 1) (i := k) (by simp) (.int .u32 (V : Nat)))
          have HA3 : Hid (Arr (wr.setCell ⟨w.heap.size + 1, k, none⟩ (.int .u32 (V : Nat))) 22 w.heap.size (w.heap.size + 1) fn fn (upto (fun i => remZ p (FL.getD i (false, [])).1 (valN (FL.getD i (false, [])).2)) fn (k + 1))) := by
            show Arr _ _ _ _ _ _ _
            rw [← upto_set, hFk]
            exact hA.out.set k _ (by omega)
          have hVw : IntKind.u32.wrap (V : Int) = (V : Int) := IntWalk.u32_in _ (by omega)
          have hpw : IntKind.u64.wrap (p : Int) = (p : Int) := IntWalk.u64_in _ (by omega)
          clear ehv hFk htop G1 hV
          cases neg with
          | false =>
            rw [if_neg (by simp)] at hrz
            subst hrz
            go_wp2
            go_roundw
            case rel => exact ⟨k + 1, by go_num, by omega, HA3, HX3⟩
            case measure => simp [intOf]; omega
          | true =>
            by_cases hv0 : hv = 0
            · rw [if_neg (fun h => h.2 hv0)] at hrz
              subst hrz
              subst hv0
              have hgt : ¬ ((0 : Nat) : Int) > 0 := by omega
              go_wp2
              go_roundw
              case rel => exact ⟨k + 1, by go_num, by omega, HA3, HX3⟩
              case measure => simp [intOf]; omega
            · rw [if_pos ⟨rfl, hv0⟩] at hrz
              have hgt : (hv : Int) > 0 := by omega
              have hsub : (p : Int) - (hv : Int) = (V : Int) := by omega
              have hw64 : IntKind.u64.wrap (V : Int) = (V : Int) := IntWalk.u64_in _ (by omega)
              clear hrz
              go_wp2
              go_roundw
              case rel => exact ⟨k + 1, by go_num, by omega, HA3, HX3⟩
              case measure => simp [intOf]; omega
        · obtain ⟨J, rfl⟩ : ∃ J, K = J + 1 := ⟨K - 1, by omega⟩
          have hge : ((J + 1 : Nat) : Int) - 1 ≥ 0 := by omega
          have eJ : ((J + 1 : Nat) : Int) - 1 = (J : Int) := by omega
          rcases G1.out.rd with h | ⟨mb, mo, rfl, hmc⟩
          · omega
          have cJ := hmc J (by omega)
          have hHl : hornP p la (J + 1) < p := Nat.mod_lt _ hp0
          have hst : Hid (hornP p la J = (hornP p la (J + 1) * 4294967296 + nth la J) % p) := hornP_step p la (by omega)
          have hlj := G1.out.lt J
          obtain ⟨h1, eh1⟩ : ∃ h, h = hornP p la (J + 1) := ⟨_, rfl⟩
          obtain ⟨x, ex⟩ : ∃ x, x = nth la J := ⟨_, rfl⟩
          obtain ⟨M, hM⟩ : ∃ M, M = h1 * 4294967296 := ⟨_, rfl⟩
          obtain ⟨S, hS⟩ : ∃ S, S = M + x := ⟨_, rfl⟩
          rw [← eh1] at hHl hst ⊢
          rw [← ex] at hlj hst cJ
          have hMb : M ≤ 4294967295 * 4294967296 := by rw [hM]; exact Nat.mul_le_mul_right _ (by omega)
          have m1 : (h1 : Int) * 4294967296 = (M : Int) := by rw [hM]; simp
          have m2 : IntKind.u64.wrap (M : Int) = (M : Int) := IntWalk.u64_in _ (by omega)
          have m3 : (M : Int) + (x : Int) = (S : Int) := by rw [hS]; simp
          have m4 : IntKind.u64.wrap (S : Int) = (S : Int) := IntWalk.u64_in _ (by omega)
          have m5 : (S : Int) % (p : Int) = (hornP p la J : Nat) := by rw [hst.out, hS, hM]; simp
          have m6 : (S : Int).tmod (p : Int) = (hornP p la J : Nat) := by rw [Int.tmod_eq_emod_of_nonneg (by omega)]; exact m5
          have m7 : IntKind.u64.wrap (p : Int) = (p : Int) := IntWalk.u64_in _ (by omega)
          have m8 : IntKind.u64.wrap (x : Int) = (x : Int) := IntWalk.u64_in _ (by omega)
          have hJ0 : (0 : Int) ≤ (J : Int) := by omega
          have hJm : (J : Int) < (m : Int) := by omega
          rw [eJ]
          clear hM hS eh1 ex hst hrz htop
          obtain ⟨h0, eh0⟩ : ∃ h, h = hornP p la J := ⟨_, rfl⟩
          rw [← eh0] at m5 m6
          have HE := Alg.hid eh0
          clear eh0
          go_wp2
          go_round
          case rel => exact ⟨J, by rw [← HE.out], by go_num, by omega⟩
          case measure => first | (simp [intOf]; done) | (simp [intOf]; omega)
    · obtain rfl : k = fn := by omega
      have hkn' : ¬ (k : Int) < (k : Int) := by omega
      have HL := Alg.hid (hA.out.sl (by omega))
      have hxx := hx.out
      clear hA hx
      go_wp2_with fail
      refine (ref_cut p _ k k _ _ HL.out).mono ?_
      rw [HIM.out]
      rintro e w' ⟨a', n', cap', rfl, hs', hb', hpv⟩
      have hbx' := hxx.mono hb'
      have e0 : w'.cell? ⟨w.heap.size, 0, none⟩ = some (.int .u32 0) := hbx'.cell' 0 0 _ _ rfl rfl
      have e1 : w'.cell? ⟨w.heap.size, 1, none⟩ = some (.slice none 0 0) := hbx'.cell' 0 1 _ _ rfl rfl
      have e2 : w'.frozen? ⟨w.heap.size, 0, none⟩ = false := hbx'.frozen' 0 0 (by simp)
      have e3 : w'.frozen? ⟨w.heap.size, 1, none⟩ = false := hbx'.frozen' 0 1 (by simp)
      go_wp2
      (try simp only [Exit.inBlock, Exit.then])
      refine bodyPost_ret (v := .agg #[.int .u32 (p : Int), .slice a' n' cap']) (by simp [results, Tryd.results61, go_sem, e0, e1]) rfl ?_
      have hof : Off a' n' w.heap.size := hpv.offb (by have := hxx.size; simp only [List.length_cons, List.length_nil] at this; omega) (by omega)
      exact ⟨_, _, _, rfl, (hs'.setCell hof _).setCell hof _, (hbx'.below.setCell (p := ⟨w.heap.size, 0, none⟩) (Nat.le_refl _) _).setCell (p := ⟨w.heap.size, 1, none⟩) (Nat.le_refl _) _, hpv.new (by have := hxx.size; omega) (by omega)⟩
end Go.Proofs.YtbnjmeeaaieicaaDoor
