/- Contract of ppoly.Diff. Laws of sums, products, values, derivatives of lists of coefficients. The walk of PpolyRing. Contract of the reference's Mul. Contracts of the reference's Value and Diff. Contracts of both Monics. The walk of PpolySums. -/
import Derived.Test.YtcefhnmhcapccaaDoorW26
import Derived.Test.YtcefhnmhcapccaaDoorE2
import Derived.Test.YtcefhnmhcapccaaDoorE4
import Derived.Test.YtcefhnmhcapccaaDoorA10
import Derived.Test.YtcefhnmhcapccaaDoorW28
import Derived.Test.YtcefhnmhcapccaaDoorA11
import Derived.Test.YtcefhnmhcapccaaDoorW18
import Derived.Test.YtcefhnmhcapccaaDoorHH
import Derived.Test.YtcefhnmhcapccaaDoorW8
section
open Alg Go Go.RowKit
namespace Alg
/-- one coefficient of the derivative -/
def dfC (p : Nat) (l : List Nat) (j : Nat) : Nat := mulM p (nth l (j + 1)) ((j + 1) % p)
def dfL (p : Nat) (l : List Nat) : List Nat := trim ((List.range (l.length - 1)).map (dfC p l))
end Alg
namespace Go.Proofs.YtcefhnmhcapccaaDoor
open Go.RowKit
set_option maxRecDepth 100000 in
set_option maxHeartbeats 600000 in
theorem ppoly_Diff (p : Nat) (fa : Option Addr) (fn fcap : Nat) (fl : List Nat) (w : World) (hf : Sl w fa fn fcap fl)
    (hp0 : 0 < p) (hp : p < 4294967296) (hfn : fn ≤ 1099511627776) :
    Calls Tryd.prog 26 #[.agg #[.int .u32 p, .slice fa fn fcap]] w (RetP p (dfL p fl) [] w) := by
  obtain ⟨i0, hi, hz0, hz1, hz2⟩ := info_parts Tryd.infoU'
  have hbx := boxes2 w #[.int .u32 (p : Int), .slice fa fn fcap] #[.int .u32 0, .slice none 0 0] 25 25
  have K : Hid (∀ W, Boxes w W [#[.int .u32 (p : Int), .slice fa fn fcap], #[.int .u32 0, .slice none 0 0]] → W.cell? ⟨w.heap.size, 0, none⟩ = some (.int .u32 (p : Int)) ∧ W.cell? ⟨w.heap.size, 1, none⟩ = some (.slice fa fn fcap) ∧ Boxes w W [#[.int .u32 (p : Int), .slice fa fn fcap], #[.int .u32 0, .slice none 0 0]]) :=
    fun W h => ⟨h.cell' 0 0 _ _ rfl rfl, h.cell' 0 1 _ _ rfl rfl, h⟩
  have hl := hf.len
  go_enter Tryd.func26, Tryd.ntmps26
  go_wp2
  go_loopw [3, 9] (fun v i wr => ∃ k : Nat, i = .int .i64 k ∧ k ≤ fn ∧ Gr wr 22 (w.heap.size + 2) v (k - 1) ((List.range (k - 1)).map (dfC p fl)) ∧ Boxes w wr [#[.int .u32 (p : Int), .slice fa fn fcap], #[.int .u32 0, .slice none 0 0]]) (fun _ i _ => fn - (intOf i).toNat)
  case atStart => exact ⟨0, rfl, Nat.zero_le _, Gr.nil _ _ _, hbx⟩
  case round =>
    clear hbx
    obtain ⟨k, rfl, hk, hG, hbx⟩ := hrel
    have d0 : wr.cell? ⟨w.heap.size, 0, none⟩ = some (.int .u32 (p : Int)) := hbx.cell' 0 0 _ _ rfl rfl
    have d1 : wr.cell? ⟨w.heap.size, 1, none⟩ = some (.slice fa fn fcap) := hbx.cell' 0 1 _ _ rfl rfl
    by_cases hkn : k < fn
    · rcases hf.rd with h0 | ⟨b, off, rfl, hc⟩
      · omega
      have c1 : wr.cell? ⟨b, off + k, none⟩ = some (.int .u32 (nth fl k : Nat)) := (hbx.below.cell (p := ⟨b, off + k, none⟩) (cell_lt (hc k hkn))).trans (hc k hkn)
      have hlt := hf.lt k
      clear hc
      by_cases hk0 : k = 0
      · have HG := Alg.hid hG
        have hkp : ¬ (0 : Int) < (k : Int) := by omega
        have HK := Alg.hid (show k + 1 - 1 = k - 1 by omega)
        clear hG hk0
        go_wp2
        go_roundw
        case rel => exact ⟨k + 1, by go_num, by omega, by rw [HK.out]; exact HG.out, hbx⟩
        case measure => simp [intOf]; omega
      · have hkp : (0 : Int) < (k : Int) := by omega
        obtain ⟨km, hkm⟩ : ∃ km, km = k % p := ⟨_, rfl⟩
        have HM : Hid (mulM p (nth fl k) km = dfC p fl (k - 1)) := by show _ = mulM p (nth fl (k - 1 + 1)) ((k - 1 + 1) % p); rw [hkm, show k - 1 + 1 = k by omega]
        have hmod : km < 4294967296 := by have := Nat.mod_lt k hp0; omega
        have hmM := mulM_lt p (nth fl k) km hp0
        have m1 : (k : Int).tmod (p : Int) = (km : Int) := by rw [hkm, Int.tmod_eq_emod_of_nonneg (by omega)]; simp
        have m2 : IntKind.i64.wrap (p : Int) = (p : Int) := IntWalk.i64_in _ (by omega)
        have m3 : IntKind.u32.wrap (km : Int) = (km : Int) := IntWalk.u32_in _ (by omega)
        have m4 : IntKind.i64.wrap (km : Int) = (km : Int) := IntWalk.i64_in _ (by omega)
        clear hkm
        have m7 : ((p : Int) == 0) = false := by simp; omega
        have m8 : ¬ p = 0 := by omega
        have q1 : k - 1 + 1 ≤ maxLen := by unfold maxLen; omega
        have q2 : (k - 1 + 1) * 4 ≤ 140737488355328 := by omega
        have q3 : ∀ u ∈ [Value.int .u32 (mulM p (nth fl k) km : Int)], u.oneCell' = true := by simp [Value.oneCell']
        have HG := Alg.hid hG
        have Q3 := Alg.hid q3
        clear hG q3
        go_wp2
        go_region_held3 (fun W => W.cell? ⟨w.heap.size, 0, none⟩ = some (.int .u32 (p : Int)) ∧ W.cell? ⟨w.heap.size, 1, none⟩ = some (.slice (some ⟨b, off, none⟩) fn fcap) ∧ Boxes w W [#[.int .u32 (p : Int), .slice (some ⟨b, off, none⟩) fn fcap], #[.int .u32 0, .slice none 0 0]])
          (first | (exact K.out _ (by assumption)) | (exact K.out _ hbx.drew) | (exact K.out _ (Boxes.alloc_any (by assumption) _)) | fail)
          (first
            | (go_at_call 58; refine (modp_Mul p (nth fl k) km wr.drew hp0 hp hlt hmod).mono ?_; rintro e w1 ⟨rfl, hw⟩; have hx1 : Boxes w w1 [#[.int .u32 (p : Int), .slice (some ⟨b, off, none⟩) fn fcap], #[.int .u32 0, .slice none 0 0]] := (by rw [hw]; exact hbx.drew); have hG1 := HG.out.drew; rw [← hw] at hG1; clear hw)
            | (refine step_append_lies _ (by rfl) _ _ 23 (by rfl) (w.heap.size + 2) 22 i0 _ 1 4 Tryd.underlying23 hi hz0 hz1 hz2 rfl Nat.one_pos _ (k - 1) (vals ((List.range (k - 1)).map (dfC p fl))) (by rfl) (hG1.own.alloc _) ⟨w1.heap.size, 0, none⟩ 1 1 [.int .u32 (mulM p (nth fl k) km : Int)] (by rfl) (by rfl) news_one Q3.out Nat.one_pos q1 q2 (Nat.le_trans hx1.size (size_le_alloc _ _)) (w1.heap.size + 1) (World.size_alloc _ _) ?_; intro gg cap w2 hown2 hgrow hat hlt2; have hx2 := (hx1.alloc_any (.cells #[.int .u32 (mulM p (nth fl k) km : Int)] 22)).grown hgrow (fun q e => HG.out.row q e)) | fail)
        clear m1 m2 m3 m4
        have hG2 := Gr.snoc hown2 hG1.lt (by omega)
        have ek : k - 1 + 1 = k := by omega
        rw [HM.out] at hG2
        have HG2 := Alg.hid hG2
        have EK := Alg.hid ek
        clear hG2 hG1 hown2 hgrow ek
        go_wp2
        go_roundw
        case rel =>
          refine ⟨k + 1, by go_num, by omega, ?_, hx2⟩
          have h9 := HG2.out
          have e9 : (List.range (k + 1 - 1)).map (dfC p fl) = (List.range (k - 1)).map (dfC p fl) ++ [dfC p fl (k - 1)] := by
            rw [show k + 1 - 1 = k - 1 + 1 by omega, List.range_succ, List.map_append, List.map_cons, List.map_nil]
          rw [e9, show k + 1 - 1 = k - 1 + 1 by omega]
          exact h9
        case measure => simp [intOf]; omega
    · have ek : k = fn := by omega
      obtain ⟨a0, cap0, rfl, hs0, hg0⟩ := hG.sl
      have EK := Alg.hid ek
      clear ek hG
      go_wp2_with fail
      refine (ppoly_of p _ (k - 1) cap0 _ _ hs0).mono ?_
      rintro e w' ⟨a', n', cap', rfl, hs', hb', hpv⟩
      have hbx' := hbx.mono hb'
      have e0 : w'.cell? ⟨w.heap.size + 1, 0, none⟩ = some (.int .u32 0) := hbx'.cell' 1 0 _ _ rfl rfl
      have e1 : w'.cell? ⟨w.heap.size + 1, 1, none⟩ = some (.slice none 0 0) := hbx'.cell' 1 1 _ _ rfl rfl
      have e2 : w'.frozen? ⟨w.heap.size + 1, 0, none⟩ = false := hbx'.frozen' 1 0 (by simp)
      have e3 : w'.frozen? ⟨w.heap.size + 1, 1, none⟩ = false := hbx'.frozen' 1 1 (by simp)
      go_wp2
      (try simp only [Exit.inBlock, Exit.then])
      refine bodyPost_ret (v := .agg #[.int .u32 (p : Int), .slice a' n' cap']) (by simp [results, Tryd.results26, go_sem, e0, e1]) rfl ?_
      have hlen := hs0.len
      have hof : Off a' n' (w.heap.size + 1) := own_off hpv hg0 hs' (by have := hbx.size; simp at this; omega) (by omega)
      have eR : dfL p fl = trim ((List.range (k - 1)).map (dfC p fl)) := by unfold dfL; rw [hl, EK.out]
      rw [eR]
      exact ⟨_, _, _, rfl, (hs'.setCell hof _).setCell hof _, ((hbx'.below.setCell (p := ⟨w.heap.size + 1, 0, none⟩) (by simp) _).setCell (p := ⟨w.heap.size + 1, 1, none⟩) (by simp) _), own_prov hpv hg0 hs' hbx.below.size (by omega)⟩
end Go.Proofs.YtcefhnmhcapccaaDoor
end
section
open Alg
namespace Alg
open Poly
section
variable {p : Nat} [NeZero p]
theorem valB_back (a : Nat) (l : List Nat) : ∀ k, k ≤ l.length → (Fp.of (valB p a (backL l l.length k)) : Fp p) = ev (Fp.of a) (pol p (l.drop (l.length - k)))
  | 0, _ => by
    have : l.drop (l.length - 0) = [] := by rw [Nat.sub_zero, List.drop_length]
    rw [this, pol_nil, ev_zero]
    exact Fp.of_zero
  | k + 1, h => by
    have ih := valB_back a l k (by omega)
    have e : l.length - k = l.length - (k + 1) + 1 := by omega
    rw [backL_succ, valB_snoc, of_addM, of_mulM, ih, show l.length - 1 - k = l.length - (k + 1) by omega, e, pol_drop l (l.length - (k + 1)), ev_add, ev_C, ev_mul, ev_X, CR.pw_one]
    rw [CR.add_comm, CR.mul_comm (Fp.of a)]
    rfl
theorem valL_ev (l : List Nat) (a : Nat) : (Fp.of (valL p l a) : Fp p) = ev (Fp.of a) (pol p l) := by
  unfold valL
  rw [valB_back a l _ (Nat.le_refl _), Nat.sub_self, List.drop_zero]
theorem valL_lt (l : List Nat) (a : Nat) : valL p l a < p := valB_lt _ _ _ (Nat.pos_of_ne_zero (NeZero.ne p))
theorem dfL_ok (l : List Nat) : pol p (dfL p l) = D (pol p l) ∧ Canon p (dfL p l) := by
  unfold dfL
  refine ⟨?_, range_canon _ _ fun i => mulM_lt _ _ _ (Nat.pos_of_ne_zero (NeZero.ne p))⟩
  rw [pol_trim]
  refine pol_diff l (dfC p l) fun i _ => ?_
  rw [dfC, of_mulM, Fp.of_mod, CR.mul_comm]
  rfl
theorem ring_assoc (f g h : List Nat) : mulL p (mulL p f g) h = mulL p f (mulL p g h) :=
  canon_ext (mulL_ok (p := p) _ _).2 (mulL_ok (p := p) _ _).2 (by rw [(mulL_ok _ _).1, (mulL_ok _ _).1, (mulL_ok _ _).1, (mulL_ok _ _).1, CR.mul_assoc])
theorem ring_comm (f g : List Nat) : mulL p f g = mulL p g f :=
  canon_ext (mulL_ok (p := p) _ _).2 (mulL_ok (p := p) _ _).2 (by rw [(mulL_ok _ _).1, (mulL_ok _ _).1, CR.mul_comm])
theorem ring_dist (f g h : List Nat) : mulL p f (addL p g h) = addL p (mulL p f g) (mulL p f h) :=
  canon_ext (mulL_ok (p := p) _ _).2 (addL_ok' (p := p) _ _).2 (by rw [(mulL_ok _ _).1, (addL_ok' _ _).1, (addL_ok' _ _).1, (mulL_ok _ _).1, (mulL_ok _ _).1, CR.mul_add])
theorem ring_diff (f g : List Nat) : dfL p (mulL p f g) = addL p (mulL p (dfL p f) g) (mulL p f (dfL p g)) :=
  canon_ext (dfL_ok (p := p) _).2 (addL_ok' (p := p) _ _).2 (by rw [(dfL_ok _).1, (mulL_ok _ _).1, (addL_ok' _ _).1, (mulL_ok _ _).1, (mulL_ok _ _).1, (dfL_ok _).1, (dfL_ok _).1, D_mul])
theorem val_mul (f g : List Nat) (a : Nat) : valL p (mulL p f g) a = valL p f a * valL p g a % p := by
  refine Fp.of_inj (p := p) (valL_lt _ _) (Nat.mod_lt _ (Nat.pos_of_ne_zero (NeZero.ne p))) ?_
  rw [Fp.of_mod, Fp.of_mul, valL_ev, valL_ev, valL_ev, (mulL_ok _ _).1, ev_mul]
theorem val_add (f g : List Nat) (a : Nat) : valL p (addL p f g) a = (valL p f a + valL p g a) % p := by
  refine Fp.of_inj (p := p) (valL_lt _ _) (Nat.mod_lt _ (Nat.pos_of_ne_zero (NeZero.ne p))) ?_
  rw [Fp.of_mod, Fp.of_add, valL_ev, valL_ev, valL_ev, (addL_ok' _ _).1, ev_add]
omit [NeZero p] in
theorem dfL_len (l : List Nat) : (dfL p l).length ≤ l.length := Nat.le_trans (range_le (Nat.le_refl _)) (Nat.sub_le _ _)
end
end Alg
end
section
open Alg Go Go.RowKit
namespace Go.Proofs.YtcefhnmhcapccaaDoor
open Go.RowKit
theorem ppoly_AddL (p : Nat) (fa : Option Addr) (fn fcap : Nat) (fl : List Nat) (ga : Option Addr) (gn gcap : Nat) (gl : List Nat) (q : Int) (w : World) (hf : Sl w fa fn fcap fl) (hg : Sl w ga gn gcap gl)
    (hp0 : 0 < p) (hp : p < 4294967296) (hfn : fn ≤ 1099511627776) (hgn : gn ≤ 1099511627776) :
    Calls Tryd.prog 17 #[.agg #[.int .u32 p, .slice fa fn fcap], .agg #[.int .u32 q, .slice ga gn gcap]] w (RetP p (addL p fl gl) [] w) := by
  unfold addL
  rw [hf.len, hg.len]
  exact ppoly_Add p fa fn fcap fl ga gn gcap gl q w hf hg hp0 hp hfn hgn
set_option maxRecDepth 100000 in
set_option maxHeartbeats 4000000 in
theorem ring_walk (hA : Awake) (p : Nat) (fa : Option Addr) (fn fcap : Nat) (fl : List Nat) (q : Nat) (ga : Option Addr) (gn gcap : Nat) (gl : List Nat) (r : Nat) (ha : Option Addr) (hn hcap : Nat) (hl : List Nat) (a : Nat) (w : World) (hf : Sl w fa fn fcap fl) (hg : Sl w ga gn gcap gl) (hh : Sl w ha hn hcap hl) (hp : p < 4294967296) (hq : q < 4294967296) (hr : r < 4294967296) (hav : a < 4294967296) :
    Calls Tryd.prog 6 #[.agg #[.int .u32 (p : Int), .slice fa fn fcap], .agg #[.int .u32 (q : Int), .slice ga gn gcap], .agg #[.int .u32 (r : Int), .slice ha hn hcap], .int .u32 a] w fun e w' => e = .returned (.bool true) ∧ Below w.heap.size w w' := by
  have hbx := boxes3 w #[.int .u32 (p : Int), .slice fa fn fcap] #[.int .u32 (q : Int), .slice ga gn gcap] #[.int .u32 (r : Int), .slice ha hn hcap] 25 25 25
  go_enter Tryd.func6, Tryd.ntmps6
  go_wp2_with fail
  refine (hA _).mono ?_
  rintro e w1 ⟨rfl, hb1⟩
  have hx1 := hbx.mono hb1
  clear hbx
  have d0 : w1.cell? ⟨w.heap.size, 0, none⟩ = some (.int .u32 (p : Int)) := hx1.cell' 0 0 _ _ rfl rfl
  have d1 : w1.cell? ⟨w.heap.size, 1, none⟩ = some (.slice fa fn fcap) := hx1.cell' 0 1 _ _ rfl rfl
  have d2 : w1.cell? ⟨w.heap.size + 1, 0, none⟩ = some (.int .u32 (q : Int)) := hx1.cell' 1 0 _ _ rfl rfl
  have d3 : w1.cell? ⟨w.heap.size + 1, 1, none⟩ = some (.slice ga gn gcap) := hx1.cell' 1 1 _ _ rfl rfl
  go_wp2_with fail
  refine (ref_Pair p fa fn fcap fl q ga gn gcap gl 8 w1 (hf.mono hx1.below) (hg.mono hx1.below) hp hq (by omega)).mono ?_
  rintro e w2 ⟨rfl, hb2⟩
  have hx2 := hx1.mono hb2
  clear d0 d1 d2 d3 hx1
  cases hpb : pairB p fl q gl 8 with
  | false =>
    go_wp2
    go_ret
    exact ⟨rfl, hx2.below⟩
  | true =>
    obtain ⟨rfl, lf, lg, cf, cg, hpr, hp2⟩ := pairB_true hpb
    clear hpb
    have d0 : w2.cell? ⟨w.heap.size, 0, none⟩ = some (.int .u32 (p : Int)) := hx2.cell' 0 0 _ _ rfl rfl
    have d1 : w2.cell? ⟨w.heap.size, 1, none⟩ = some (.slice fa fn fcap) := hx2.cell' 0 1 _ _ rfl rfl
    have d2 : w2.cell? ⟨w.heap.size + 1 + 1, 0, none⟩ = some (.int .u32 (r : Int)) := hx2.cell' 2 0 _ _ rfl rfl
    have d3 : w2.cell? ⟨w.heap.size + 1 + 1, 1, none⟩ = some (.slice ha hn hcap) := hx2.cell' 2 1 _ _ rfl rfl
    go_wp2_with fail
    refine (ref_Pair p fa fn fcap fl r ha hn hcap hl 8 w2 (hf.mono hx2.below) (hh.mono hx2.below) hp hr (by omega)).mono ?_
    rintro e w3 ⟨rfl, hb3⟩
    have hx3 := hx2.mono hb3
    clear d0 d1 d2 d3 hx2
    cases hpb : pairB p fl r hl 8 with
    | false =>
      go_wp2
      go_ret
      exact ⟨rfl, hx3.below⟩
    | true =>
      obtain ⟨rfl, _, lh, _, ch, _, _⟩ := pairB_true hpb
      clear hpb
      rw [hf.len] at lf
      rw [hg.len] at lg
      rw [hh.len] at lh
      have hp0 : 0 < p := by have := hpr.1; omega
      haveI hne : NeZero p := ⟨by omega⟩
      have hfn : fn ≤ 1099511627776 := by omega
      have hgn : gn ≤ 1099511627776 := by omega
      have hhn : hn ≤ 1099511627776 := by omega
      obtain ⟨km, hkm0⟩ : ∃ km, km = a % p := ⟨_, rfl⟩
      have hkm : km < 4294967296 := by have := Nat.mod_lt a hp0; omega
      have m1 : (a : Int).tmod (p : Int) = (km : Int) := by rw [hkm0, Int.tmod_eq_emod_of_nonneg (by omega)]; simp
      have m2 : IntKind.u32.wrap (km : Int) = (km : Int) := IntWalk.u32_in _ (by omega)
      have m3 : IntKind.u64.wrap (p : Int) = (p : Int) := IntWalk.u64_in _ (by omega)
      have m4 : ((p : Int) == 0) = false := by simp; omega
      have m5 : ¬ p = 0 := by omega
      clear hkm0
      have E1 : Hid (sameB p (mulL p (mulL p fl gl) hl) p (mulL p fl (mulL p gl hl)) = true) := sameB_true.2 ⟨rfl, ring_assoc _ _ _⟩
      have E2 : Hid (sameB p (mulL p fl gl) p (mulL p gl fl) = true) := sameB_true.2 ⟨rfl, ring_comm _ _⟩
      have E3 : Hid (sameB p (mulL p fl (addL p gl hl)) p (addL p (mulL p fl gl) (mulL p fl hl)) = true) := sameB_true.2 ⟨rfl, ring_dist _ _ _⟩
      have E4 : Hid (sameB p (dfL p (mulL p fl gl)) p (addL p (mulL p (dfL p fl) gl) (mulL p fl (dfL p gl))) = true) := sameB_true.2 ⟨rfl, ring_diff _ _⟩
      have HX1 := Alg.hid (val_mul (p := p) fl gl km)
      have HX4 := Alg.hid (val_add (p := p) fl gl km)
      have HL1 := Alg.hid (valL_lt (p := p) (mulL p fl gl) km)
      have HL2 := Alg.hid (valL_lt (p := p) fl km)
      have HL3 := Alg.hid (valL_lt (p := p) gl km)
      have HL4 := Alg.hid (valL_lt (p := p) (addL p fl gl) km)
      obtain ⟨X1, V1⟩ : ∃ x, Hid (valL p (mulL p fl gl) km = x) := ⟨_, rfl⟩
      obtain ⟨X2, V2⟩ : ∃ x, Hid (valL p fl km = x) := ⟨_, rfl⟩
      obtain ⟨X3, V3⟩ : ∃ x, Hid (valL p gl km = x) := ⟨_, rfl⟩
      obtain ⟨X4, V4⟩ : ∃ x, Hid (valL p (addL p fl gl) km = x) := ⟨_, rfl⟩
      rw [V1.out, V2.out, V3.out] at HX1
      rw [V4.out, V2.out, V3.out] at HX4
      rw [V1.out] at HL1
      rw [V2.out] at HL2
      rw [V3.out] at HL3
      rw [V4.out] at HL4
      have b1 := HL1.out
      have b2 := HL2.out
      have b3 := HL3.out
      have b4 := HL4.out
      obtain ⟨bb1, bb2⟩ := cMul_le (a := X2) (b := X3) (by omega) (by omega)
      have z1 : IntKind.u64.wrap (X1 : Int) = (X1 : Int) := IntWalk.u64_in _ (by omega)
      have z2 : IntKind.u64.wrap (X2 : Int) = (X2 : Int) := IntWalk.u64_in _ (by omega)
      have z3 : IntKind.u64.wrap (X3 : Int) = (X3 : Int) := IntWalk.u64_in _ (by omega)
      have z4 : IntKind.u64.wrap (X4 : Int) = (X4 : Int) := IntWalk.u64_in _ (by omega)
      have z5 : IntKind.u64.wrap ((X2 : Int) * (X3 : Int)) = (X2 : Int) * (X3 : Int) := IntWalk.u64_in _ (by omega)
      have z6 : IntKind.u64.wrap ((X2 : Int) + (X3 : Int)) = (X2 : Int) + (X3 : Int) := IntWalk.u64_in _ (by omega)
      have z7 : ((X2 : Int) * (X3 : Int)).tmod (p : Int) = (X1 : Int) := by rw [Int.tmod_eq_emod_of_nonneg bb2, HX1.out]; simp
      have z8 : ((X2 : Int) + (X3 : Int)).tmod (p : Int) = (X4 : Int) := by rw [Int.tmod_eq_emod_of_nonneg (by omega), HX4.out]; simp
      have z9 : ((X1 : Int) != (X1 : Int)) = false := bne_no rfl
      have z10 : ((X4 : Int) != (X4 : Int)) = false := bne_no rfl
      clear b1 b2 b3 b4 bb1 bb2 HX1 HX4 HL1 HL2 HL3 HL4 cf cg ch
      have d0 : w3.cell? ⟨w.heap.size, 0, none⟩ = some (.int .u32 (p : Int)) := hx3.cell' 0 0 _ _ rfl rfl
      have d1 : w3.cell? ⟨w.heap.size, 1, none⟩ = some (.slice fa fn fcap) := hx3.cell' 0 1 _ _ rfl rfl
      have d2 : w3.cell? ⟨w.heap.size + 1, 0, none⟩ = some (.int .u32 (p : Int)) := hx3.cell' 1 0 _ _ rfl rfl
      have d3 : w3.cell? ⟨w.heap.size + 1, 1, none⟩ = some (.slice ga gn gcap) := hx3.cell' 1 1 _ _ rfl rfl
      go_wp2_with fail
      refine (ppoly_Mul p fa fn fcap fl ga gn gcap gl p w3 (hf.mono hx3.below) (hg.mono hx3.below) hp0 hp hfn hgn).mono ?_
      rintro e w4 ⟨ma, mn, mcap, rfl, hm4, hb4, _⟩
      have hy5 := boxes1 w4 #[.int .u32 (p : Int), .slice ma mn mcap] 25
      have hx5 := (hx3.mono hb4).mono hy5.below
      have hm := hm4
      have hmn : mn ≤ 18 := by
        have h1 := hm.len
        have h2 := mulL_len p fl gl
        have h3 := hf.len
        have h4 := hg.len
        omega
      clear d0 d1 d2 d3 hx3
      have K : Hid (∀ W, Boxes w W [#[.int .u32 (p : Int), .slice fa fn fcap], #[.int .u32 (p : Int), .slice ga gn gcap], #[.int .u32 (p : Int), .slice ha hn hcap]] → Boxes w4 W [#[.int .u32 (p : Int), .slice ma mn mcap]] → W.cell? ⟨w.heap.size, 0, none⟩ = some (.int .u32 (p : Int)) ∧ W.cell? ⟨w.heap.size, 1, none⟩ = some (.slice fa fn fcap) ∧ W.cell? ⟨w.heap.size + 1, 0, none⟩ = some (.int .u32 (p : Int)) ∧ W.cell? ⟨w.heap.size + 1, 1, none⟩ = some (.slice ga gn gcap) ∧ W.cell? ⟨w.heap.size + 1 + 1, 0, none⟩ = some (.int .u32 (p : Int)) ∧ W.cell? ⟨w.heap.size + 1 + 1, 1, none⟩ = some (.slice ha hn hcap) ∧ W.cell? ⟨w4.heap.size, 0, none⟩ = some (.int .u32 (p : Int)) ∧ W.cell? ⟨w4.heap.size, 1, none⟩ = some (.slice ma mn mcap) ∧ Boxes w W [#[.int .u32 (p : Int), .slice fa fn fcap], #[.int .u32 (p : Int), .slice ga gn gcap], #[.int .u32 (p : Int), .slice ha hn hcap]] ∧ Boxes w4 W [#[.int .u32 (p : Int), .slice ma mn mcap]]) :=
        fun W h h' => ⟨h.at0 rfl |>.1, h.at0 rfl |>.2, h.at1 rfl |>.1, h.at1 rfl |>.2, h.cell' 2 0 _ _ rfl rfl, h.cell' 2 1 _ _ rfl rfl, h'.at0 rfl |>.1, h'.at0 rfl |>.2, h, h'⟩
      go_wp2
      generalize hw5 : w4.alloc (.cells #[.int .u32 (p : Int), .slice ma mn mcap] 25) = w5 at hx5 hy5 ⊢
      clear hw5
      replace hx5 := hx5.drew
      replace hy5 := hy5.drew
      go_region_held3 (fun W => W.cell? ⟨w.heap.size, 0, none⟩ = some (.int .u32 (p : Int)) ∧ W.cell? ⟨w.heap.size, 1, none⟩ = some (.slice fa fn fcap) ∧ W.cell? ⟨w.heap.size + 1, 0, none⟩ = some (.int .u32 (p : Int)) ∧ W.cell? ⟨w.heap.size + 1, 1, none⟩ = some (.slice ga gn gcap) ∧ W.cell? ⟨w.heap.size + 1 + 1, 0, none⟩ = some (.int .u32 (p : Int)) ∧ W.cell? ⟨w.heap.size + 1 + 1, 1, none⟩ = some (.slice ha hn hcap) ∧ W.cell? ⟨w4.heap.size, 0, none⟩ = some (.int .u32 (p : Int)) ∧ W.cell? ⟨w4.heap.size, 1, none⟩ = some (.slice ma mn mcap) ∧ Boxes w W [#[.int .u32 (p : Int), .slice fa fn fcap], #[.int .u32 (p : Int), .slice ga gn gcap], #[.int .u32 (p : Int), .slice ha hn hcap]] ∧ Boxes w4 W [#[.int .u32 (p : Int), .slice ma mn mcap]])
        (first | (exact K.out _ (by assumption) (by assumption)) | fail)
        (first
          | (go_at_call 18; (with_reducible refine (ppoly_Mul p ma mn mcap (mulL p fl gl) ha hn hcap hl p w5.drew (hm.mono hy5.below) (hh.mono hx5.below) hp0 hp (by omega) (by omega)).mono ?_); rintro e w6 ⟨a6, n6, c6, rfl, hs6, hb6, _⟩; have hx6 := hx5.mono hb6; have hy6 := hy5.mono hb6; have hn6 : n6 ≤ 27 := (by have h1 := hs6.len; have h2 := mulL_len p (mulL p fl gl) hl; have h3 := Sl.len (hm.mono hy5.below); have h4 := Sl.len (hh.mono hx5.below); omega))
          | (go_at_call 18; (with_reducible refine (ppoly_Mul p ga gn gcap gl ha hn hcap hl p w6 (hg.mono hx6.below) (hh.mono hx6.below) hp0 hp (by omega) (by omega)).mono ?_); rintro e w7 ⟨a7, n7, c7, rfl, hs7, hb7, _⟩; have hx7 := hx6.mono hb7; have hy7 := hy6.mono hb7; have hn7 : n7 ≤ 18 := (by have h1 := hs7.len; have h2 := mulL_len p gl hl; have h3 := Sl.len (hg.mono hx6.below); have h4 := Sl.len (hh.mono hx6.below); omega))
          | (go_at_call 18; (with_reducible refine (ppoly_Mul p fa fn fcap fl a7 n7 c7 (mulL p gl hl) p w7 (hf.mono hx7.below) hs7 hp0 hp (by omega) (by omega)).mono ?_); rintro e w8 ⟨a8, n8, c8, rfl, hs8, hb8, _⟩; have hx8 := hx7.mono hb8; have hy8 := hy7.mono hb8; have hn8 : n8 ≤ 27 := (by have h1 := hs8.len; have h2 := mulL_len p fl (mulL p gl hl); have h3 := Sl.len (hf.mono hx7.below); have h4 := Sl.len hs7; omega))
          | (go_at_call 16; (with_reducible refine (ref_Same p a6 n6 c6 (mulL p (mulL p fl gl) hl) p a8 n8 c8 (mulL p fl (mulL p gl hl)) w8 ((hs6.mono hb7).mono hb8) hs8 (by omega)).mono ?_); rw [E1.out]; rintro e w9 ⟨rfl, hb9⟩; have hx9 := hx8.mono hb9; have hy9 := hy8.mono hb9)
          | (go_at_call 18; (with_reducible refine (ppoly_Mul p ga gn gcap gl fa fn fcap fl p w9 (hg.mono hx9.below) (hf.mono hx9.below) hp0 hp (by omega) (by omega)).mono ?_); rintro e w10 ⟨a10, n10, c10, rfl, hs10, hb10, _⟩; have hx10 := hx9.mono hb10; have hy10 := hy9.mono hb10; have hn10 : n10 ≤ 18 := (by have h1 := hs10.len; have h2 := mulL_len p gl fl; have h3 := Sl.len (hg.mono hx9.below); have h4 := Sl.len (hf.mono hx9.below); omega))
          | (go_at_call 16; (with_reducible refine (ref_Same p ma mn mcap (mulL p fl gl) p a10 n10 c10 (mulL p gl fl) w10 (hm.mono hy10.below) hs10 (by omega)).mono ?_); rw [E2.out]; rintro e w11 ⟨rfl, hb11⟩; have hx11 := hx10.mono hb11; have hy11 := hy10.mono hb11)
          | (go_at_call 17; (with_reducible refine (ppoly_AddL p ga gn gcap gl ha hn hcap hl p w11 (hg.mono hx11.below) (hh.mono hx11.below) hp0 hp (by omega) (by omega)).mono ?_); rintro e w12 ⟨a12, n12, c12, rfl, hs12, hb12, _⟩; have hx12 := hx11.mono hb12; have hy12 := hy11.mono hb12; have hn12 : n12 ≤ 9 := (by have h1 := hs12.len; have h2 := addL_len p gl hl; have h3 := Sl.len (hg.mono hx11.below); have h4 := Sl.len (hh.mono hx11.below); omega))
          | (go_at_call 18; (with_reducible refine (ppoly_Mul p fa fn fcap fl a12 n12 c12 (addL p gl hl) p w12 (hf.mono hx12.below) hs12 hp0 hp (by omega) (by omega)).mono ?_); rintro e w13 ⟨a13, n13, c13, rfl, hs13, hb13, _⟩; have hx13 := hx12.mono hb13; have hy13 := hy12.mono hb13; have hn13 : n13 ≤ 18 := (by have h1 := hs13.len; have h2 := mulL_len p fl (addL p gl hl); have h3 := Sl.len (hf.mono hx12.below); have h4 := Sl.len hs12; omega))
          | (go_at_call 18; (with_reducible refine (ppoly_Mul p fa fn fcap fl ha hn hcap hl p w13 (hf.mono hx13.below) (hh.mono hx13.below) hp0 hp (by omega) (by omega)).mono ?_); rintro e w14 ⟨a14, n14, c14, rfl, hs14, hb14, _⟩; have hx14 := hx13.mono hb14; have hy14 := hy13.mono hb14; have hn14 : n14 ≤ 18 := (by have h1 := hs14.len; have h2 := mulL_len p fl hl; have h3 := Sl.len (hf.mono hx13.below); have h4 := Sl.len (hh.mono hx13.below); omega))
          | (go_at_call 17; (with_reducible refine (ppoly_AddL p ma mn mcap (mulL p fl gl) a14 n14 c14 (mulL p fl hl) p w14 (hm.mono hy14.below) hs14 hp0 hp (by omega) (by omega)).mono ?_); rintro e w15 ⟨a15, n15, c15, rfl, hs15, hb15, _⟩; have hx15 := hx14.mono hb15; have hy15 := hy14.mono hb15; have hn15 : n15 ≤ 18 := (by have h1 := hs15.len; have h2 := addL_len p (mulL p fl gl) (mulL p fl hl); have h3 := Sl.len (hm.mono hy14.below); have h4 := Sl.len hs14; omega))
          | (go_at_call 16; (with_reducible refine (ref_Same p a13 n13 c13 (mulL p fl (addL p gl hl)) p a15 n15 c15 (addL p (mulL p fl gl) (mulL p fl hl)) w15 ((hs13.mono hb14).mono hb15) hs15 (by omega)).mono ?_); rw [E3.out]; rintro e w16 ⟨rfl, hb16⟩; have hx16 := hx15.mono hb16; have hy16 := hy15.mono hb16)
          | fail)
      go_wp2
      replace hx16 := hx16.drew
      replace hy16 := hy16.drew
      go_region_held3 (fun W => W.cell? ⟨w.heap.size, 0, none⟩ = some (.int .u32 (p : Int)) ∧ W.cell? ⟨w.heap.size, 1, none⟩ = some (.slice fa fn fcap) ∧ W.cell? ⟨w.heap.size + 1, 0, none⟩ = some (.int .u32 (p : Int)) ∧ W.cell? ⟨w.heap.size + 1, 1, none⟩ = some (.slice ga gn gcap) ∧ W.cell? ⟨w.heap.size + 1 + 1, 0, none⟩ = some (.int .u32 (p : Int)) ∧ W.cell? ⟨w.heap.size + 1 + 1, 1, none⟩ = some (.slice ha hn hcap) ∧ W.cell? ⟨w4.heap.size, 0, none⟩ = some (.int .u32 (p : Int)) ∧ W.cell? ⟨w4.heap.size, 1, none⟩ = some (.slice ma mn mcap) ∧ Boxes w W [#[.int .u32 (p : Int), .slice fa fn fcap], #[.int .u32 (p : Int), .slice ga gn gcap], #[.int .u32 (p : Int), .slice ha hn hcap]] ∧ Boxes w4 W [#[.int .u32 (p : Int), .slice ma mn mcap]])
        (first | (exact K.out _ (by assumption) (by assumption)) | fail)
        (first
          | (go_at_call 25; (with_reducible refine (ppoly_Value p km ma mn mcap (mulL p fl gl) w16.drew (hm.mono hy16.below) hp0 hp hkm (by omega)).mono ?_); rw [V1.out]; rintro e w17 ⟨rfl, hb17⟩; have hx17 := hx16.mono hb17; have hy17 := hy16.mono hb17)
          | (go_at_call 25; (with_reducible refine (ppoly_Value p km fa fn fcap fl w17 (hf.mono hx17.below) hp0 hp hkm (by omega)).mono ?_); rw [V2.out]; rintro e w18 ⟨rfl, hb18⟩; have hx18 := hx17.mono hb18; have hy18 := hy17.mono hb18)
          | (go_at_call 25; (with_reducible refine (ppoly_Value p km ga gn gcap gl w18 (hg.mono hx18.below) hp0 hp hkm (by omega)).mono ?_); rw [V3.out]; rintro e w19 ⟨rfl, hb19⟩; have hx19 := hx18.mono hb19; have hy19 := hy18.mono hb19)
          | (go_at_call 17; (with_reducible refine (ppoly_AddL p fa fn fcap fl ga gn gcap gl p w19 (hf.mono hx19.below) (hg.mono hx19.below) hp0 hp (by omega) (by omega)).mono ?_); rintro e w20 ⟨a20, n20, c20, rfl, hs20, hb20, _⟩; have hx20 := hx19.mono hb20; have hy20 := hy19.mono hb20; have hn20 : n20 ≤ 9 := (by have h1 := hs20.len; have h2 := addL_len p fl gl; have h3 := Sl.len (hf.mono hx19.below); have h4 := Sl.len (hg.mono hx19.below); omega))
          | (go_at_call 25; (with_reducible refine (ppoly_Value p km a20 n20 c20 (addL p fl gl) w20 hs20 hp0 hp hkm (by omega)).mono ?_); rw [V4.out]; rintro e w21 ⟨rfl, hb21⟩; have hx21 := hx20.mono hb21; have hy21 := hy20.mono hb21)
          | (go_at_call 25; (with_reducible refine (ppoly_Value p km fa fn fcap fl w21 (hf.mono hx21.below) hp0 hp hkm (by omega)).mono ?_); rw [V2.out]; rintro e w22 ⟨rfl, hb22⟩; have hx22 := hx21.mono hb22; have hy22 := hy21.mono hb22)
          | (go_at_call 25; (with_reducible refine (ppoly_Value p km ga gn gcap gl w22 (hg.mono hx22.below) hp0 hp hkm (by omega)).mono ?_); rw [V3.out]; rintro e w23 ⟨rfl, hb23⟩; have hx23 := hx22.mono hb23; have hy23 := hy22.mono hb23)
          | fail)
      go_wp2
      replace hx23 := hx23.drew
      replace hy23 := hy23.drew
      go_region_held3 (fun W => W.cell? ⟨w.heap.size, 0, none⟩ = some (.int .u32 (p : Int)) ∧ W.cell? ⟨w.heap.size, 1, none⟩ = some (.slice fa fn fcap) ∧ W.cell? ⟨w.heap.size + 1, 0, none⟩ = some (.int .u32 (p : Int)) ∧ W.cell? ⟨w.heap.size + 1, 1, none⟩ = some (.slice ga gn gcap) ∧ W.cell? ⟨w.heap.size + 1 + 1, 0, none⟩ = some (.int .u32 (p : Int)) ∧ W.cell? ⟨w.heap.size + 1 + 1, 1, none⟩ = some (.slice ha hn hcap) ∧ W.cell? ⟨w4.heap.size, 0, none⟩ = some (.int .u32 (p : Int)) ∧ W.cell? ⟨w4.heap.size, 1, none⟩ = some (.slice ma mn mcap) ∧ Boxes w W [#[.int .u32 (p : Int), .slice fa fn fcap], #[.int .u32 (p : Int), .slice ga gn gcap], #[.int .u32 (p : Int), .slice ha hn hcap]] ∧ Boxes w4 W [#[.int .u32 (p : Int), .slice ma mn mcap]])
        (first | (exact K.out _ (by assumption) (by assumption)) | fail)
        (first
          | (go_at_call 26; (with_reducible refine (ppoly_Diff p ma mn mcap (mulL p fl gl) w23.drew (hm.mono hy23.below) hp0 hp (by omega)).mono ?_); rintro e w24 ⟨a24, n24, c24, rfl, hs24, hb24, _⟩; have hx24 := hx23.mono hb24; have hy24 := hy23.mono hb24; have hn24 : n24 ≤ 18 := (by have h1 := hs24.len; have h2 := dfL_len (p := p) (mulL p fl gl); have h3 := Sl.len (hm.mono hy23.below); omega))
          | (go_at_call 26; (with_reducible refine (ppoly_Diff p fa fn fcap fl w24 (hf.mono hx24.below) hp0 hp (by omega)).mono ?_); rintro e w25 ⟨a25, n25, c25, rfl, hs25, hb25, _⟩; have hx25 := hx24.mono hb25; have hy25 := hy24.mono hb25; have hn25 : n25 ≤ 9 := (by have h1 := hs25.len; have h2 := dfL_len (p := p) fl; have h3 := Sl.len (hf.mono hx24.below); omega))
          | (go_at_call 18; (with_reducible refine (ppoly_Mul p a25 n25 c25 (dfL p fl) ga gn gcap gl p w25 hs25 (hg.mono hx25.below) hp0 hp (by omega) (by omega)).mono ?_); rintro e w26 ⟨a26, n26, c26, rfl, hs26, hb26, _⟩; have hx26 := hx25.mono hb26; have hy26 := hy25.mono hb26; have hn26 : n26 ≤ 18 := (by have h1 := hs26.len; have h2 := mulL_len p (dfL p fl) gl; have h3 := Sl.len hs25; have h4 := Sl.len (hg.mono hx25.below); omega))
          | (go_at_call 26; (with_reducible refine (ppoly_Diff p ga gn gcap gl w26 (hg.mono hx26.below) hp0 hp (by omega)).mono ?_); rintro e w27 ⟨a27, n27, c27, rfl, hs27, hb27, _⟩; have hx27 := hx26.mono hb27; have hy27 := hy26.mono hb27; have hn27 : n27 ≤ 9 := (by have h1 := hs27.len; have h2 := dfL_len (p := p) gl; have h3 := Sl.len (hg.mono hx26.below); omega))
          | (go_at_call 18; (with_reducible refine (ppoly_Mul p fa fn fcap fl a27 n27 c27 (dfL p gl) p w27 (hf.mono hx27.below) hs27 hp0 hp (by omega) (by omega)).mono ?_); rintro e w28 ⟨a28, n28, c28, rfl, hs28, hb28, _⟩; have hx28 := hx27.mono hb28; have hy28 := hy27.mono hb28; have hn28 : n28 ≤ 18 := (by have h1 := hs28.len; have h2 := mulL_len p fl (dfL p gl); have h3 := Sl.len (hf.mono hx27.below); have h4 := Sl.len hs27; omega))
          | (go_at_call 17; (with_reducible refine (ppoly_AddL p a26 n26 c26 (mulL p (dfL p fl) gl) a28 n28 c28 (mulL p fl (dfL p gl)) p w28 ((hs26.mono hb27).mono hb28) hs28 hp0 hp (by omega) (by omega)).mono ?_); rintro e w29 ⟨a29, n29, c29, rfl, hs29, hb29, _⟩; have hx29 := hx28.mono hb29; have hy29 := hy28.mono hb29; have hn29 : n29 ≤ 18 := (by have h1 := hs29.len; have h2 := addL_len p (mulL p (dfL p fl) gl) (mulL p fl (dfL p gl)); have h3 := Sl.len ((hs26.mono hb27).mono hb28); have h4 := Sl.len hs28; omega))
          | (go_at_call 16; (with_reducible refine (ref_Same p a24 n24 c24 (dfL p (mulL p fl gl)) p a29 n29 c29 (addL p (mulL p (dfL p fl) gl) (mulL p fl (dfL p gl))) w29 (((((hs24.mono hb25).mono hb26).mono hb27).mono hb28).mono hb29) hs29 (by omega)).mono ?_); rw [E4.out]; rintro e w30 ⟨rfl, hb30⟩; have hx30 := hx29.mono hb30; have hy30 := hy29.mono hb30)
          | fail)
      all_goals
        go_wp2
        go_ret
        exact ⟨rfl, hx30.below⟩
end Go.Proofs.YtcefhnmhcapccaaDoor
end
section
open Alg Go Go.RowKit
namespace Go.Proofs.YtcefhnmhcapccaaDoor
open Go.RowKit
theorem Tryd.infoU34 : (Tryd.prog.info? 22).map (fun i => (i.zero, i.size, i.bytes)) = some (some (.int .u32 0), 1, 4) := by kernel_rfl
set_option maxRecDepth 100000 in
set_option maxHeartbeats 1000000 in
theorem ref_Mul1 (p : Nat) (fa : Option Addr) (fn fcap : Nat) (fl : List Nat) (ga : Option Addr) (gn gcap : Nat) (gl : List Nat) (q : Int) (w : World) (hf : Sl w fa fn fcap fl) (hg : Sl w ga gn gcap gl)
    (hf0 : 0 < fn) (hg0 : 0 < gn) (hp0 : 0 < p) (hp : p < 4294967296) (hfn : fn ≤ 1099511627776) (hgn : gn ≤ 1099511627776) (cf : ∀ i, nth fl i < p) (cg : ∀ i, nth gl i < p) :
    Calls Tryd.prog 24 #[.agg #[.int .u32 p, .slice fa fn fcap], .agg #[.int .u32 q, .slice ga gn gcap]] w (RetP p (trim (outerM p fl gl (fn + gn - 1) fn)) [] w) := by
  obtain ⟨i0, hi, hz0, hz1, hz2⟩ := info_parts Tryd.infoU34
  obtain ⟨n, hn⟩ : ∃ n, n = fn + gn - 1 := ⟨_, rfl⟩
  rw [← hn]
  have hn1 : n + 1 ≤ fn + gn := by omega
  have hn2 : fn + gn ≤ n + 1 := by omega
  clear hn
  have hL : (fn : Int) + (gn : Int) - 1 = (n : Int) := by omega
  have hfb : ((fn : Int) == 0) = false := by simp; omega
  have hgb : ((gn : Int) == 0) = false := by simp; omega
  have HL := Alg.hid hL
  have CF := Alg.hid cf
  have CG := Alg.hid cg
  clear hL cf cg
  rcases hf.rd with h0 | ⟨b, off, rfl, hcf⟩
  · omega
  rcases hg.rd with h0 | ⟨b', off', rfl, hcg⟩
  · omega
  clear hcf hcg
  go_enter Tryd.func24, Tryd.ntmps24
  go_wp2_with (at_make; refine wpList_make_full _ rfl _ _ 23 rfl w.heap.size 22 i0 (.int .u32 0) 1 Tryd.underlying23 hi hz0 hz1 .i64 .i64 _ _ n rfl rfl HL.out HL.out (by rw [hz2]; omega) (by unfold maxLen; omega) (by simp; omega) ?_; rw [madeCells_u32]; intro w1 hown hgr; simp only [World.size_alloc] at hown; have hbx := (boxes3 w _ _ _ _ _ _).mono (below_grown hgr); clear hgr; have hA : Arr w1 22 w.heap.size (w.heap.size + 1 + 1 + 1) n n (List.replicate n 0) := ⟨hown, fun i => by rw [← upto_zero (fun _ => 0) n, nth_upto]; split <;> decide⟩; clear hown; have d0 : w1.cell? ⟨w.heap.size, 0, none⟩ = some (.int .u32 (p : Int)) := hbx.cell' 0 0 _ _ rfl rfl; have d1 : w1.cell? ⟨w.heap.size, 1, none⟩ = some (.slice (some ⟨b, off, none⟩) fn fcap) := hbx.cell' 0 1 _ _ rfl rfl)
  go_loopw [6] (fun v wr => ∃ i : Nat, v = .int .i64 i ∧ i ≤ fn ∧ Arr wr 22 w.heap.size (w.heap.size + 1 + 1 + 1) n n (outerM p fl gl n i) ∧ Boxes w wr [#[.int .u32 (p : Int), .slice (some ⟨b, off, none⟩) fn fcap], #[.int .u32 q, .slice (some ⟨b', off', none⟩) gn gcap], #[.int .u32 0, .slice none 0 0]]) (fun v _ => fn - (intOf v).toNat)
  case atStart => exact ⟨0, rfl, Nat.zero_le _, hA, hbx⟩
  case round =>
    clear hA hbx d0 d1
    obtain ⟨i, rfl, hik, hA, hbx⟩ := hrel
    obtain ⟨wo, rfl⟩ : ∃ wo : World, wo = wr := ⟨_, rfl⟩
    have d0 : wo.cell? ⟨w.heap.size, 0, none⟩ = some (.int .u32 (p : Int)) := hbx.cell' 0 0 _ _ rfl rfl
    have d1 : wo.cell? ⟨w.heap.size, 1, none⟩ = some (.slice (some ⟨b, off, none⟩) fn fcap) := hbx.cell' 0 1 _ _ rfl rfl
    have hB := hbx.below
    by_cases hin : i < fn
    · have HA := Alg.hid hA
      clear hA
      go_wp2
      go_loopw [7] (fun v wr => ∃ k : Nat, v = .int .i64 k ∧ k ≤ gn ∧ Arr wr 22 w.heap.size (w.heap.size + 1 + 1 + 1) n n (innerM p (nth fl i) i gl (outerM p fl gl n i) k) ∧ Boxes w wr [#[.int .u32 (p : Int), .slice (some ⟨b, off, none⟩) fn fcap], #[.int .u32 q, .slice (some ⟨b', off', none⟩) gn gcap], #[.int .u32 0, .slice none 0 0]]) (fun v _ => gn - (intOf v).toNat)
      case atStart => exact ⟨0, rfl, Nat.zero_le _, HA.out, hbx⟩
      case round =>
        clear hbx d0 d1 hB HA
        obtain ⟨k, rfl, hkk, hA, hbx⟩ := hrel
        have d2 : wr.cell? ⟨w.heap.size + 1, 1, none⟩ = some (.slice (some ⟨b', off', none⟩) gn gcap) := hbx.cell' 1 1 _ _ rfl rfl
        by_cases hkn : k < gn
        · have hik2 : i + k < n := by omega
          have cA0 := hA.cell hik2
          have lA := hA.lt (i + k)
          obtain ⟨cA, hcA⟩ : ∃ x, nth (innerM p (nth fl i) i gl (outerM p fl gl n i) k) (i + k) = x := ⟨_, rfl⟩
          rw [hcA] at cA0 lA
          have HCA := Alg.hid hcA
          have HA := Alg.hid hA
          clear hA
          go_wp2
          have bf := CF.out i
          have bg := CG.out k
          obtain ⟨xF, hxF⟩ : ∃ x, nth fl i = x := ⟨_, rfl⟩
          obtain ⟨xG, hxG⟩ : ∃ x, nth gl k = x := ⟨_, rfl⟩
          rw [hxF] at bf
          rw [hxG] at bg
          have HXF := Alg.hid hxF
          have HXG := Alg.hid hxG
          clear hxF hxG hcA
          obtain ⟨bb1, bb2⟩ := cMul_le (a := xF) (b := xG) (by omega) (by omega)
          have bb3 : (xF : Int) * (xG : Int) ≤ 18446744056529682436 := by
            have h1 : xF ≤ 4294967294 := by omega
            have h2 : xG ≤ 4294967294 := by omega
            have h3 := Nat.mul_le_mul h1 h2
            have h4 : ((xF * xG : Nat) : Int) ≤ ((4294967294 * 4294967294 : Nat) : Int) := Int.ofNat_le.2 h3
            simpa using h4
          have hadd := addM_lt p cA (mulM p xF xG) hp0
          have s1 : (0 : Int) ≤ (i : Int) + k := by omega
          have s2 : (i : Int) + k < n := by omega
          have s3 : ((i : Int) + k).toNat = i + k := by omega
          have s4 : IntKind.i64.wrap ((i : Int) + k) = (i : Int) + k := IntWalk.i64_in _ (by omega)
          have m1 : IntKind.u64.wrap (cA : Int) = (cA : Int) := IntWalk.u64_in _ (by omega)
          have m2 : IntKind.u64.wrap ((xF : Int) * (xG : Int)) = (xF : Int) * (xG : Int) := IntWalk.u64_in _ (by omega)
          have m3 : IntKind.u64.wrap ((cA : Int) + (xF : Int) * (xG : Int)) = (cA : Int) + (xF : Int) * (xG : Int) := IntWalk.u64_in _ (by omega)
          have m4 : IntKind.u64.wrap (p : Int) = (p : Int) := IntWalk.u64_in _ (by omega)
          have m5 : ((cA : Int) + (xF : Int) * (xG : Int)).tmod (p : Int) = (addM p cA (mulM p xF xG) : Int) := by
            rw [Int.tmod_eq_emod_of_nonneg (by omega), addM_cast, mulM_cast, Int.add_emod_emod]
          have m6 : IntKind.u32.wrap (addM p cA (mulM p xF xG) : Int) = (addM p cA (mulM p xF xG) : Int) := IntWalk.u32_in _ (by omega)
          have m7 : ((p : Int) == 0) = false := by simp; omega
          have m8 : ¬ p = 0 := by omega
          have m9 : IntKind.u64.wrap (addM p cA (mulM p xF xG) : Int) = (addM p cA (mulM p xF xG) : Int) := IntWalk.u64_in _ (by omega)
          have K1 : Hid (∀ W, Boxes w W [#[.int .u32 (p : Int), .slice (some ⟨b, off, none⟩) fn fcap], #[.int .u32 q, .slice (some ⟨b', off', none⟩) gn gcap], #[.int .u32 0, .slice none 0 0]] → W.cell? ⟨w.heap.size + 1 + 1 + 1, i + k, none⟩ = some (.int .u32 (cA : Nat)) → (fun W => W.cell? ⟨w.heap.size, 0, none⟩ = some (.int .u32 (p : Int)) ∧ W.cell? ⟨w.heap.size, 1, none⟩ = some (.slice (some ⟨b, off, none⟩) fn fcap) ∧ W.cell? ⟨w.heap.size + 1, 0, none⟩ = some (.int .u32 q) ∧ W.cell? ⟨w.heap.size + 1, 1, none⟩ = some (.slice (some ⟨b', off', none⟩) gn gcap) ∧ W.cell? ⟨w.heap.size + 1 + 1 + 1, i + k, none⟩ = some (.int .u32 (cA : Nat))) W) :=
            fun W h h2 => ⟨h.cell' 0 0 _ _ rfl rfl, h.cell' 0 1 _ _ rfl rfl, h.cell' 1 0 _ _ rfl rfl, h.cell' 1 1 _ _ rfl rfl, h2⟩
          refine wp_region_noPanic ?_
          refine wp_region_held2 25 [(1, 0), (1, 1), (1, 2), (1, 3), (1, 4), (1, 5), (1, 6), (1, 7), (1, 8), (1, 9), (1, 10), (1, 11), (1, 12), (1, 14), (1, 15), (1, 19), (1, 20), (1, 21), (0, 13), (0, 16), (1, 17), (1, 18), (1, 22), (1, 23), (1, 24), (3, 25)] (fun W => W.cell? ⟨w.heap.size, 0, none⟩ = some (.int .u32 (p : Int)) ∧ W.cell? ⟨w.heap.size, 1, none⟩ = some (.slice (some ⟨b, off, none⟩) fn fcap) ∧ W.cell? ⟨w.heap.size + 1, 0, none⟩ = some (.int .u32 q) ∧ W.cell? ⟨w.heap.size + 1, 1, none⟩ = some (.slice (some ⟨b', off', none⟩) gn gcap) ∧ W.cell? ⟨w.heap.size + 1 + 1 + 1, i + k, none⟩ = some (.int .u32 (cA : Nat))) (fun _ => True) (by kernel_rfl) (by kernel_rfl) (fun _ _ _ _ _ h => h) (fun _ _ => trivial) (K1.out _ hbx.drew cA0) (fun _ => ?_)
          simp only [pick2, List.getElem?_cons_succ, List.getElem?_cons_zero]
          iterate 18
            (refine held2_early (v := ?_) (by rfl) ?_ ?_
             rotate_left
             · intro W hSw; (try dsimp only at hSw); go_simp; (try with_reducible rfl))
            try simp only [Act.put, List.setIfInBounds_toArray, List.set_cons_zero, List.set_cons_succ]
          refine held2_loud (fun K hK => ?_)
          go_simp
          refine (ref_at p (some ⟨b, off, none⟩) fn fcap fl i wr.drew ((hf.mono hbx.below).drew)).mono ?_
          rw [HXF.out]
          rintro e w2 ⟨rfl, hb2⟩
          have hx2 := hbx.drew.mono hb2
          have hA2 := HA.out.drew.mono hb2
          have cA2 := hA2.cell hik2
          rw [HCA.out] at cA2
          refine hK.out _ _ (K1.out _ hx2 cA2) (fun _ => ?_)
          clear hK K cA2
          try simp only [Act.put, List.setIfInBounds_toArray, List.set_cons_zero, List.set_cons_succ]
          refine held2_loud (fun K hK => ?_)
          go_simp
          refine (ref_at q (some ⟨b', off', none⟩) gn gcap gl k w2 (hg.mono hx2.below)).mono ?_
          rw [HXG.out]
          rintro e w3 ⟨rfl, hb3⟩
          have hx3 := hx2.mono hb3
          have hA3 := hA2.mono hb3
          have cA3 := hA3.cell hik2
          have fA3 := hA3.frozen (i + k)
          rw [HCA.out] at cA3
          refine hK.out _ _ (K1.out _ hx3 cA3) (fun _ => ?_)
          clear hK K
          try simp only [Act.put, List.setIfInBounds_toArray, List.set_cons_zero, List.set_cons_succ]
          iterate 5
            (refine held2_early (v := ?_) (by rfl) ?_ ?_
             rotate_left
             · intro W hSw; (try dsimp only at hSw); go_simp; (try with_reducible rfl))
            try simp only [Act.put, List.setIfInBounds_toArray, List.set_cons_zero, List.set_cons_succ]
          refine held2_store (fun K hK => ?_)
          go_simp
          refine hK.out _ _ trivial (fun _ => ?_)
          clear hK K
          try simp only [Act.put, List.setIfInBounds_toArray, List.set_cons_zero, List.set_cons_succ]
          refine held2_nil ?_
          refine NoPanic.normal ?_
          clear m1 m2 m3 m4 m5 m6 m7 m9 s1 s2 s3 s4 bb1 bb2 bb3
          go_wp2
          go_roundw
          case rel =>
            refine ⟨k + 1, by go_num, by omega, ?_, hx3.setCell (by simp) _⟩
            have h9 := hA3.set (i + k) (addM p cA (mulM p xF xG)) (Nat.lt_trans (addM_lt _ _ _ hp0) hp)
            show Arr _ _ _ _ _ _ ((innerM p (nth fl i) i gl (outerM p fl gl n i) k).set (i + k) (addM p (nth (innerM p (nth fl i) i gl (outerM p fl gl n i) k) (i + k)) (mulM p (nth fl i) (nth gl k))))
            rw [HCA.out, HXF.out, HXG.out]
            rw [HXF.out] at h9
            exact h9
          case measure => simp [intOf]; omega
        · go_wp2
          go_roundw
          case rel =>
            have e : k = gn := by omega
            have el := hg.len
            exact ⟨i + 1, by go_num, by omega, by show Arr _ _ _ _ _ _ (innerM p (nth fl i) i gl (outerM p fl gl n i) gl.length); rw [el, ← e]; exact hA, hbx⟩
          case measure => simp [intOf]; omega
    · have ei : i = fn := by omega
      have HS := Alg.hid (hA.sl (by omega))
      clear hA
      go_wp2_with fail
      refine (ref_cut p _ n n _ _ HS.out).mono ?_
      rintro e w' ⟨a', n', cap', rfl, hs', hb', hpv⟩
      have hbx' := hbx.mono hb'
      have e0 : w'.cell? ⟨w.heap.size + 1 + 1, 0, none⟩ = some (.int .u32 0) := hbx'.cell' 2 0 _ _ rfl rfl
      have e1 : w'.cell? ⟨w.heap.size + 1 + 1, 1, none⟩ = some (.slice none 0 0) := hbx'.cell' 2 1 _ _ rfl rfl
      have e2 : w'.frozen? ⟨w.heap.size + 1 + 1, 0, none⟩ = false := hbx'.frozen' 2 0 (by simp)
      have e3 : w'.frozen? ⟨w.heap.size + 1 + 1, 1, none⟩ = false := hbx'.frozen' 2 1 (by simp)
      have EI := Alg.hid ei
      clear ei
      go_wp2
      (try simp only [Exit.inBlock, Exit.then])
      refine bodyPost_ret (v := .agg #[.int .u32 (p : Int), .slice a' n' cap']) (by simp [results, Tryd.results24, go_sem, e0, e1]) rfl ?_
      have hof : Off a' n' (w.heap.size + 1 + 1) := hpv.offb (by have := hbx.size; simp at this; omega) (by omega)
      rw [← EI.out]
      exact ⟨_, _, _, rfl, (hs'.setCell hof _).setCell hof _, ((hbx'.below.setCell (p := ⟨w.heap.size + 1 + 1, 0, none⟩) (by simp; omega) _).setCell (p := ⟨w.heap.size + 1 + 1, 1, none⟩) (by simp; omega) _), hpv.new hB.size (by omega)⟩
theorem ref_Mul0 (p : Nat) (fa : Option Addr) (fn fcap : Nat) (ga : Option Addr) (gn gcap : Nat) (q : Int) (w : World) (h0 : fn = 0 ∨ gn = 0) (hfn : fn ≤ 1099511627776) (hgn : gn ≤ 1099511627776) :
    Calls Tryd.prog 24 #[.agg #[.int .u32 p, .slice fa fn fcap], .agg #[.int .u32 q, .slice ga gn gcap]] w (RetP p [] [] w) := by
  have hbx := boxes3 w #[.int .u32 (p : Int), .slice fa fn fcap] #[.int .u32 q, .slice ga gn gcap] #[.int .u32 0, .slice none 0 0] 25 25 25
  have hb := hbx.below
  by_cases hf0 : fn = 0
  · subst hf0
    go_enter Tryd.func24, Tryd.ntmps24
    go_wp2
    (try simp only [Exit.inBlock, Exit.then])
    refine bodyPost_ret (v := .agg #[.int .u32 (p : Int), .slice none 0 0]) (by simp [results, Tryd.results24, go_sem]) rfl ?_
    exact ⟨_, _, _, rfl, Sl.of_nil _ _ _ (by omega), by go_grown, Prov.empty⟩
  · have hg0 : gn = 0 := h0.resolve_left hf0
    subst hg0
    have hfb : ((fn : Int) == 0) = false := by simp; omega
    go_enter Tryd.func24, Tryd.ntmps24
    go_wp2
    (try simp only [Exit.inBlock, Exit.then])
    refine bodyPost_ret (v := .agg #[.int .u32 (p : Int), .slice none 0 0]) (by simp [results, Tryd.results24, go_sem]) rfl ?_
    exact ⟨_, _, _, rfl, Sl.of_nil _ _ _ (by omega), by go_grown, Prov.empty⟩
theorem ref_Mul (p : Nat) (fa : Option Addr) (fn fcap : Nat) (fl : List Nat) (ga : Option Addr) (gn gcap : Nat) (gl : List Nat) (q : Int) (w : World) (hf : Sl w fa fn fcap fl) (hg : Sl w ga gn gcap gl)
    (hp0 : 0 < p) (hp : p < 4294967296) (hfn : fn ≤ 1099511627776) (hgn : gn ≤ 1099511627776) (cf : ∀ i, nth fl i < p) (cg : ∀ i, nth gl i < p) :
    Calls Tryd.prog 24 #[.agg #[.int .u32 p, .slice fa fn fcap], .agg #[.int .u32 q, .slice ga gn gcap]] w (RetP p (mulL p fl gl) [] w) := by
  unfold mulL
  rw [hf.len, hg.len]
  by_cases h : fn = 0 ∨ gn = 0
  · rw [if_pos h]; exact ref_Mul0 p fa fn fcap ga gn gcap q w h hfn hgn
  · rw [if_neg h]; exact ref_Mul1 p fa fn fcap fl ga gn gcap gl q w hf hg (by omega) (by omega) hp0 hp hfn hgn cf cg
end Go.Proofs.YtcefhnmhcapccaaDoor
end
section
open Alg Go Go.RowKit
namespace Go.Proofs.YtcefhnmhcapccaaDoor
open Go.RowKit
set_option maxRecDepth 100000 in
set_option maxHeartbeats 600000 in
theorem ref_Value (p a : Nat) (fa : Option Addr) (fn fcap : Nat) (fl : List Nat) (w : World) (hf : Sl w fa fn fcap fl) (hp0 : 0 < p) (hp : p < 4294967296) (ha : a < 4294967296) (hfn : fn ≤ 1099511627776) :
    Calls Tryd.prog 28 #[.agg #[.int .u32 p, .slice fa fn fcap], .int .u32 a] w fun e w' => e = .returned (.int .u32 (valL p fl a : Nat)) ∧ Below w.heap.size w w' := by
  have hbx := boxes1 w #[.int .u32 (p : Int), .slice fa fn fcap] 25
  have K : Hid (∀ W, Boxes w W [#[.int .u32 (p : Int), .slice fa fn fcap]] → W.cell? ⟨w.heap.size, 0, none⟩ = some (.int .u32 (p : Int)) ∧ W.cell? ⟨w.heap.size, 1, none⟩ = some (.slice fa fn fcap) ∧ Boxes w W [#[.int .u32 (p : Int), .slice fa fn fcap]]) :=
    fun W h => ⟨h.cell' 0 0 _ _ rfl rfl, h.cell' 0 1 _ _ rfl rfl, h⟩
  have hl := hf.len
  go_enter Tryd.func28, Tryd.ntmps28
  go_wp2
  go_loopw [5, 6] (fun v i wr => ∃ k, k ≤ fn ∧ ((∃ m : Nat, i = .int .i64 m ∧ m + k + 1 = fn) ∨ (i = .int .i64 (-1) ∧ k = fn)) ∧ v = .int .u64 (valB p a (backL fl fn k) : Nat) ∧ Boxes w wr [#[.int .u32 (p : Int), .slice fa fn fcap]]) (fun _ i _ => (intOf i + 1).toNat)
  case atStart =>
    refine ⟨0, Nat.zero_le _, ?_, rfl, hbx⟩
    by_cases h : fn = 0
    · right; subst h; exact ⟨rfl, rfl⟩
    · left; exact ⟨fn - 1, by congr 1; omega, by omega⟩
  case round =>
    clear hbx
    obtain ⟨k, hk, hi, rfl, hB⟩ := hrel
    have d0 : wr.cell? ⟨w.heap.size, 0, none⟩ = some (.int .u32 (p : Int)) := hB.cell' 0 0 _ _ rfl rfl
    have hv := valB_lt p a (backL fl fn k) hp0
    rcases hi with ⟨m, rfl, hm⟩ | ⟨rfl, hke⟩
    · have hlt := hf.lt m
      have HE : Hid (valB p a (backL fl fn (k + 1)) = addM p (mulM p (valB p a (backL fl fn k)) a) (nth fl m)) := by
        show _ = _
        rw [backL_succ, valB_snoc, show fn - 1 - k = m by omega]
      generalize valB p a (backL fl fn k) = x at hv HE ⊢
      obtain ⟨b1, b2⟩ := cMul_le (a := x) (b := a) (by omega) (by omega)
      have hm0 : (0 : Int) ≤ (m : Int) := by omega
      obtain ⟨y, hy⟩ : ∃ y, nth fl m = y := ⟨_, rfl⟩
      rw [hy] at hlt HE
      have HY := Alg.hid hy
      clear hy
      have hz := addM_lt p (mulM p x a) y hp0
      have m1 : IntKind.u64.wrap (a : Int) = (a : Int) := IntWalk.u64_in _ (by omega)
      have m2 : IntKind.u64.wrap ((x : Int) * (a : Int)) = (x : Int) * (a : Int) := IntWalk.u64_in _ (by omega)
      have m3 : IntKind.u64.wrap ((x : Int) * (a : Int) + (y : Int)) = (x : Int) * (a : Int) + (y : Int) := IntWalk.u64_in _ (by omega)
      have m4 : IntKind.u64.wrap (p : Int) = (p : Int) := IntWalk.u64_in _ (by omega)
      have m5 : ((x : Int) * (a : Int) + (y : Int)).tmod (p : Int) = (addM p (mulM p x a) y : Int) := by
        rw [Int.tmod_eq_emod_of_nonneg (by omega), addM_cast, mulM_cast, Int.emod_add_emod]
      have m6 : IntKind.u64.wrap (addM p (mulM p x a) y : Int) = (addM p (mulM p x a) y : Int) := IntWalk.u64_in _ (by omega)
      have m7 : ((p : Int) == 0) = false := by simp; omega
      have m8 : ¬ p = 0 := by omega
      go_wp2
      go_region_held3 (fun W => W.cell? ⟨w.heap.size, 0, none⟩ = some (.int .u32 (p : Int)) ∧ W.cell? ⟨w.heap.size, 1, none⟩ = some (.slice fa fn fcap) ∧ Boxes w W [#[.int .u32 (p : Int), .slice fa fn fcap]])
        (first | (exact K.out _ (by assumption)) | (exact K.out _ hB.drew) | fail)
        (first
          | (go_at_call 62; refine (ref_at p fa fn fcap fl m _ ((hf.mono hB.below).drew)).mono ?_; rw [HY.out]; rintro e w1 ⟨rfl, hb1⟩; have hx1 := hB.drew.mono hb1)
          | fail)
      clear m1 m2 m3 m4 m5 m6
      go_wp2
      go_roundw
      case rel =>
        refine ⟨k + 1, by omega, ?_, by rw [HE.out], hx1⟩
        by_cases h : m = 0
        · right; subst h; exact ⟨rfl, by omega⟩
        · left; exact ⟨m - 1, by congr 1; omega, by omega⟩
      case measure => simp [intOf]
    · have HV : Hid (valL p fl a = valB p a (backL fl fn k)) := by show valB _ _ _ = _; rw [hl, hke]
      have m1 : IntKind.u32.wrap (valB p a (backL fl fn k) : Int) = (valB p a (backL fl fn k) : Int) := IntWalk.u32_in _ (by omega)
      clear hke
      go_wp2
      go_ret
      exact ⟨by rw [HV.out]; rfl, hB.below⟩
set_option maxRecDepth 100000 in
set_option maxHeartbeats 1000000 in
theorem ref_Diff (p : Nat) (fa : Option Addr) (fn fcap : Nat) (fl : List Nat) (w : World) (hf : Sl w fa fn fcap fl)
    (hp0 : 0 < p) (hp : p < 4294967296) (hfn : fn ≤ 2147483648) :
    Calls Tryd.prog 29 #[.agg #[.int .u32 p, .slice fa fn fcap]] w (RetP p (dfL p fl) [] w) := by
  obtain ⟨i0, hi, hz0, hz1, hz2⟩ := info_parts Tryd.infoU'
  have hbx := boxes2 w #[.int .u32 (p : Int), .slice fa fn fcap] #[.int .u32 0, .slice none 0 0] 25 25
  have K : Hid (∀ W, Boxes w W [#[.int .u32 (p : Int), .slice fa fn fcap], #[.int .u32 0, .slice none 0 0]] → W.cell? ⟨w.heap.size, 0, none⟩ = some (.int .u32 (p : Int)) ∧ W.cell? ⟨w.heap.size, 1, none⟩ = some (.slice fa fn fcap) ∧ Boxes w W [#[.int .u32 (p : Int), .slice fa fn fcap], #[.int .u32 0, .slice none 0 0]]) :=
    fun W h => ⟨h.cell' 0 0 _ _ rfl rfl, h.cell' 0 1 _ _ rfl rfl, h⟩
  have hl := hf.len
  go_enter Tryd.func29, Tryd.ntmps29
  go_wp2
  go_loopw [3, 4] (fun v i wr => ∃ k : Nat, i = .int .i64 k ∧ 1 ≤ k ∧ k ≤ fn + 1 ∧ (fn < k → k = 1 ∨ k = fn) ∧ Gr wr 22 (w.heap.size + 2) v (k - 1) ((List.range (k - 1)).map (dfC p fl)) ∧ Boxes w wr [#[.int .u32 (p : Int), .slice fa fn fcap], #[.int .u32 0, .slice none 0 0]]) (fun _ i _ => fn - (intOf i).toNat)
  case atStart => exact ⟨1, rfl, Nat.le_refl _, by omega, fun _ => Or.inl rfl, Gr.nil _ _ _, hbx⟩
  case round =>
    clear hbx
    obtain ⟨k, rfl, hk1, hk, hk2, hG, hbx⟩ := hrel
    have d0 : wr.cell? ⟨w.heap.size, 0, none⟩ = some (.int .u32 (p : Int)) := hbx.cell' 0 0 _ _ rfl rfl
    have d1 : wr.cell? ⟨w.heap.size, 1, none⟩ = some (.slice fa fn fcap) := hbx.cell' 0 1 _ _ rfl rfl
    by_cases hkn : k < fn
    · have hlt := hf.lt k
      obtain ⟨y, hy⟩ : ∃ y, nth fl k = y := ⟨_, rfl⟩
      rw [hy] at hlt
      obtain ⟨z, hzd⟩ : ∃ z, z = dfC p fl (k - 1) := ⟨_, rfl⟩
      have hzp : z < p := by rw [hzd]; exact mulM_lt _ _ _ hp0
      have hyk : (y : Int) * (k : Int) % (p : Int) = (z : Int) := by
        rw [hzd, dfC, show k - 1 + 1 = k by omega, hy, mulM]
        have h1 : y * (k % p) % p = y * k % p := Nat.mul_mod_mod _ _ _
        rw [h1]; simp
      have HY := Alg.hid hy
      have HZ := Alg.hid hzd
      clear hy hzd
      have bb : y * k ≤ 4294967295 * 2147483648 := Nat.mul_le_mul (by omega) (by omega)
      have bb2 : (y : Int) * (k : Int) ≤ 9223372034707292160 := by
        have h4 : ((y * k : Nat) : Int) ≤ ((4294967295 * 2147483648 : Nat) : Int) := Int.ofNat_le.2 bb
        simpa using h4
      have bb3 : 0 ≤ (y : Int) * (k : Int) := by
        have h4 : (0 : Int) ≤ ((y * k : Nat) : Int) := by omega
        simpa using h4
      have m1 : IntKind.u64.wrap (k : Int) = (k : Int) := IntWalk.u64_in _ (by omega)
      have m2 : IntKind.u64.wrap ((y : Int) * (k : Int)) = (y : Int) * (k : Int) := IntWalk.u64_in _ (by omega)
      have m3 : IntKind.u64.wrap (p : Int) = (p : Int) := IntWalk.u64_in _ (by omega)
      have m4 : ((y : Int) * (k : Int)).tmod (p : Int) = (z : Int) := by rw [Int.tmod_eq_emod_of_nonneg bb3, hyk]
      have m5 : IntKind.u64.wrap (z : Int) = (z : Int) := IntWalk.u64_in _ (by omega)
      have m6 : IntKind.u32.wrap (z : Int) = (z : Int) := IntWalk.u32_in _ (by omega)
      have m7 : ((p : Int) == 0) = false := by simp; omega
      have m8 : ¬ p = 0 := by omega
      clear hyk bb bb2 bb3
      have q1 : k - 1 + 1 ≤ maxLen := by unfold maxLen; omega
      have q2 : (k - 1 + 1) * 4 ≤ 140737488355328 := by omega
      have q3 : ∀ u ∈ [Value.int .u32 (z : Int)], u.oneCell' = true := by simp [Value.oneCell']
      have HG := Alg.hid hG
      have Q3 := Alg.hid q3
      clear hG q3
      go_wp2
      go_region_held3 (fun W => W.cell? ⟨w.heap.size, 0, none⟩ = some (.int .u32 (p : Int)) ∧ W.cell? ⟨w.heap.size, 1, none⟩ = some (.slice fa fn fcap) ∧ Boxes w W [#[.int .u32 (p : Int), .slice fa fn fcap], #[.int .u32 0, .slice none 0 0]])
        (first | (exact K.out _ (by assumption)) | (exact K.out _ hbx.drew) | (exact K.out _ (Boxes.alloc_any (by assumption) _)) | fail)
        (first
          | (go_at_call 62; refine (ref_at p fa fn fcap fl k _ ((hf.mono hbx.below).drew)).mono ?_; rw [HY.out]; rintro e w1 ⟨rfl, hb1⟩; have hx1 := hbx.drew.mono hb1; have hG1 := HG.out.drew.mono hb1)
          | (refine step_append_lies _ (by rfl) _ _ 23 (by rfl) (w.heap.size + 2) 22 i0 _ 1 4 Tryd.underlying23 hi hz0 hz1 hz2 rfl Nat.one_pos _ (k - 1) (vals ((List.range (k - 1)).map (dfC p fl))) (by rfl) (hG1.own.alloc _) ⟨w1.heap.size, 0, none⟩ 1 1 [.int .u32 (z : Int)] (by rfl) (by rfl) news_one Q3.out Nat.one_pos q1 q2 (Nat.le_trans hx1.size (size_le_alloc _ _)) (w1.heap.size + 1) (World.size_alloc _ _) ?_; intro gg cap w2 hown2 hgrow hat hlt2; have hx2 := (hx1.alloc_any (.cells #[.int .u32 (z : Int)] 22)).grown hgrow (fun q e => HG.out.row q e)) | fail)
      clear m1 m2 m3 m4 m5 m6
      have hG2 := Gr.snoc hown2 hG1.lt (by omega)
      rw [HZ.out] at hG2
      have HG2 := Alg.hid hG2
      clear hG2 hG1 hown2 hgrow
      go_wp2
      go_roundw
      case rel =>
        refine ⟨k + 1, by go_num, by omega, by omega, fun h => Or.inr (by omega), ?_, hx2⟩
        have h9 := HG2.out
        have e9 : (List.range (k + 1 - 1)).map (dfC p fl) = (List.range (k - 1)).map (dfC p fl) ++ [dfC p fl (k - 1)] := by
          rw [show k + 1 - 1 = k - 1 + 1 by omega, List.range_succ, List.map_append, List.map_cons, List.map_nil]
        rw [e9, show k + 1 - 1 = k by omega]
        rw [show k - 1 + 1 = k by omega] at h9
        exact h9
      case measure => simp [intOf]; omega
    · have ek : k - 1 = fn - 1 := by
        rcases Nat.lt_or_ge fn k with h | h
        · rcases hk2 h with h1 | h1 <;> omega
        · omega
      obtain ⟨a0, cap0, rfl, hs0, hg0⟩ := hG.sl
      have EK := Alg.hid ek
      clear ek hG hk2
      go_wp2_with fail
      refine (ref_cut p _ (k - 1) cap0 _ _ hs0).mono ?_
      rintro e w' ⟨a', n', cap', rfl, hs', hb', hpv⟩
      have hbx' := hbx.mono hb'
      have e0 : w'.cell? ⟨w.heap.size + 1, 0, none⟩ = some (.int .u32 0) := hbx'.cell' 1 0 _ _ rfl rfl
      have e1 : w'.cell? ⟨w.heap.size + 1, 1, none⟩ = some (.slice none 0 0) := hbx'.cell' 1 1 _ _ rfl rfl
      have e2 : w'.frozen? ⟨w.heap.size + 1, 0, none⟩ = false := hbx'.frozen' 1 0 (by simp)
      have e3 : w'.frozen? ⟨w.heap.size + 1, 1, none⟩ = false := hbx'.frozen' 1 1 (by simp)
      go_wp2
      (try simp only [Exit.inBlock, Exit.then])
      refine bodyPost_ret (v := .agg #[.int .u32 (p : Int), .slice a' n' cap']) (by simp [results, Tryd.results29, go_sem, e0, e1]) rfl ?_
      have hlen := hs0.len
      have hof : Off a' n' (w.heap.size + 1) := own_off hpv hg0 hs' (by have := hbx.size; simp at this; omega) (by omega)
      have eR : dfL p fl = trim ((List.range (k - 1)).map (dfC p fl)) := by unfold dfL; rw [hl, EK.out]
      rw [eR]
      exact ⟨_, _, _, rfl, (hs'.setCell hof _).setCell hof _, ((hbx'.below.setCell (p := ⟨w.heap.size + 1, 0, none⟩) (by simp) _).setCell (p := ⟨w.heap.size + 1, 1, none⟩) (by simp) _), own_prov hpv hg0 hs' hbx.below.size (by omega)⟩
end Go.Proofs.YtcefhnmhcapccaaDoor
end
section
open Alg Go Go.RowKit
namespace Alg
/-- leading coefficient, and the monic one -/
def mnU (l : List Nat) : Nat := nth l (l.length - 1)
def mnL (p : Nat) (l : List Nat) : List Nat := if l = [] then [] else scL p (powM p (mnU l) (p - 2)) l
/-- the call hands back a number and a polynomial -/
def RetM (p u : Nat) (l : List Nat) (w : World) (e : Ending) (w' : World) : Prop :=
  ∃ a n cap, e = .returned (.tuple #[.int .u32 (u : Nat), .agg #[.int .u32 (p : Nat), .slice a n cap]]) ∧ Sl w' a n cap l ∧ Below w.heap.size w w'
end Alg
namespace Go.Proofs.YtcefhnmhcapccaaDoor
open Go.RowKit
set_option maxRecDepth 100000 in
set_option maxHeartbeats 600000 in
theorem ppoly_Monic (p : Nat) (fa : Option Addr) (fn fcap : Nat) (fl : List Nat) (w : World) (hf : Sl w fa fn fcap fl) (cf : Canon p fl)
    (hp0 : 1 < p) (hp : p < 4294967296) (hfn : fn ≤ 1099511627776) :
    Calls Tryd.prog 27 #[.agg #[.int .u32 p, .slice fa fn fcap]] w (RetM p (mnU fl) (mnL p fl) w) := by
  have hbx := boxes2 w #[.int .u32 (p : Int), .slice fa fn fcap] #[.int .u32 0, .slice none 0 0] 25 25
  have hl := hf.len
  have hlt := hf.lt (fn - 1)
  have hU : mnU fl = nth fl (fn - 1) := by unfold mnU; rw [hl]
  go_enter Tryd.func27, Tryd.ntmps27
  go_wp2_with fail
  refine (ppoly_lead p fa fn fcap fl _ (hf.mono hbx.below)).mono ?_
  rintro e w1 ⟨rfl, hb1⟩
  have hx1 := hbx.mono hb1
  have d0 : w1.cell? ⟨w.heap.size, 0, none⟩ = some (.int .u32 (p : Int)) := hx1.cell' 0 0 _ _ rfl rfl
  have d1 : w1.cell? ⟨w.heap.size, 1, none⟩ = some (.slice fa fn fcap) := hx1.cell' 0 1 _ _ rfl rfl
  by_cases h0 : fl = []
  · have hz : nth fl (fn - 1) = 0 := by rw [h0]; exact nth_nil _
    have HR : Hid (mnL p fl = []) := by show _ = _; unfold mnL; rw [if_pos h0]
    have HU : Hid (mnU fl = 0) := hU.trans hz
    clear hU
    rw [hz]
    clear hz h0 hl
    go_wp2_with fail
    refine (ppoly_of p none 0 0 [] w1 (Sl.of_nil _ _ _ (by omega))).mono ?_
    rintro e w2 ⟨a2, n2, c2, rfl, hs2, hb2, hp2⟩
    have hx2 := hx1.mono hb2
    have e0 : w2.cell? ⟨w.heap.size + 1, 0, none⟩ = some (.int .u32 0) := hx2.cell' 1 0 _ _ rfl rfl
    have e1 : w2.cell? ⟨w.heap.size + 1, 1, none⟩ = some (.slice none 0 0) := hx2.cell' 1 1 _ _ rfl rfl
    have e2 : w2.frozen? ⟨w.heap.size + 1, 0, none⟩ = false := hx2.frozen' 1 0 (by simp)
    have e3 : w2.frozen? ⟨w.heap.size + 1, 1, none⟩ = false := hx2.frozen' 1 1 (by simp)
    have hn2 : n2 = 0 := by have := hs2.len; simpa [trim] using this.symm
    subst hn2
    go_wp2
    (try simp only [Exit.inBlock, Exit.then])
    refine bodyPost_ret (v := .tuple #[.int .u32 0, .agg #[.int .u32 (p : Int), .slice a2 0 c2]]) (by simp [results, Tryd.results27, go_sem, e0, e1]) rfl ?_
    rw [HR.out, HU.out]
    exact ⟨_, _, _, rfl, (hs2.setCell (Or.inl rfl) _).setCell (Or.inl rfl) _, ((hx2.below.setCell (p := ⟨w.heap.size + 1, 0, none⟩) (by simp) _).setCell (p := ⟨w.heap.size + 1, 1, none⟩) (by simp) _)⟩
  · have hlead : nth fl (fn - 1) ≠ 0 := by
      rcases cf.top with h | h
      · exact absurd h h0
      · rw [← hl]; exact h
    have HR : Hid (mnL p fl = trim ((List.range fn).map fun i => mulM p (nth fl i) (powM p (nth fl (fn - 1)) (p - 2)))) := by
      show _ = _
      unfold mnL scL
      rw [if_neg h0, hU, hl]
    have HU := Alg.hid hU
    clear hU h0 hl
    have hinv : powM p (nth fl (fn - 1)) (p - 2) < p := powM_lt _ _ _ (by omega)
    have hzb : ((nth fl (fn - 1) : Nat) : Int) ≠ 0 := by omega
    have hzb2 : (((nth fl (fn - 1) : Nat) : Int) == 0) = false := by simp; omega
    go_wp2_with fail
    refine (modp_Inv p (nth fl (fn - 1)) w1 hp0 hp hlt hlead).mono ?_
    rintro e w2 ⟨rfl, rfl⟩
    generalize powM p (nth fl (fn - 1)) (p - 2) = inv at hinv HR ⊢
    go_wp2_with fail
    refine (ppoly_Scale p inv fa fn fcap fl w2 (hf.mono hx1.below) (by omega) hp (by omega) hfn).mono ?_
    rintro e w3 ⟨a2, n2, c2, rfl, hs2, hb2, hp2⟩
    have hx2 := hx1.mono hb2
    have e0 : w3.cell? ⟨w.heap.size + 1, 0, none⟩ = some (.int .u32 0) := hx2.cell' 1 0 _ _ rfl rfl
    have e1 : w3.cell? ⟨w.heap.size + 1, 1, none⟩ = some (.slice none 0 0) := hx2.cell' 1 1 _ _ rfl rfl
    have e2 : w3.frozen? ⟨w.heap.size + 1, 0, none⟩ = false := hx2.frozen' 1 0 (by simp)
    have e3 : w3.frozen? ⟨w.heap.size + 1, 1, none⟩ = false := hx2.frozen' 1 1 (by simp)
    have hsz : w.heap.size + 2 ≤ w2.heap.size := hx1.size
    have hof : Off a2 n2 (w.heap.size + 1) := hp2.off0 (by omega)
    go_wp2
    (try simp only [Exit.inBlock, Exit.then])
    refine bodyPost_ret (v := .tuple #[.int .u32 (nth fl (fn - 1) : Nat), .agg #[.int .u32 (p : Int), .slice a2 n2 c2]]) (by simp [results, Tryd.results27, go_sem, e0, e1]) rfl ?_
    rw [HR.out, HU.out]
    exact ⟨_, _, _, rfl, (hs2.setCell hof _).setCell hof _, ((hx2.below.setCell (p := ⟨w.heap.size + 1, 0, none⟩) (by simp) _).setCell (p := ⟨w.heap.size + 1, 1, none⟩) (by simp) _)⟩
set_option maxRecDepth 100000 in
set_option maxHeartbeats 600000 in
theorem ref_Monic (p : Nat) (fa : Option Addr) (fn fcap : Nat) (fl : List Nat) (w : World) (hf : Sl w fa fn fcap fl)
    (hp0 : 1 < p) (hp : p < 4294967296) (hfn : fn ≤ 1099511627776) :
    Calls Tryd.prog 23 #[.agg #[.int .u32 p, .slice fa fn fcap]] w (RetM p (mnU fl) (mnL p fl) w) := by
  have hbx := boxes2 w #[.int .u32 (p : Int), .slice fa fn fcap] #[.int .u32 0, .slice none 0 0] 25 25
  have hl := hf.len
  have hlt := hf.lt (fn - 1)
  have hU : mnU fl = nth fl (fn - 1) := by unfold mnU; rw [hl]
  by_cases h0 : fn = 0
  · have hfl : fl = [] := List.length_eq_zero_iff.1 (by omega)
    have HR : Hid (mnL p fl = []) := by show _ = _; unfold mnL; rw [if_pos hfl]
    have HU : Hid (mnU fl = 0) := by show _ = _; rw [hfl]; rfl
    subst h0
    clear hU hl hfl
    go_enter Tryd.func23, Tryd.ntmps23
    go_wp2
    go_region
    all_goals
      go_wp2
      (try simp only [Exit.inBlock, Exit.then])
      refine bodyPost_ret (v := .tuple #[.int .u32 0, .agg #[.int .u32 (p : Int), .slice fa 0 fcap]]) (by simp [results, Tryd.results23, go_sem]) rfl ?_
      rw [HR.out, HU.out]
      exact ⟨_, _, _, rfl, Sl.of_nil _ _ _ hf.cap, by go_grown⟩
  · rcases hf.rd with h1 | ⟨b, off, rfl, hc⟩
    · exact absurd h1 h0
    have c1 := hc (fn - 1) (by omega)
    have hbl : b < w.heap.size := cell_lt c1
    clear hc
    have hne : fl ≠ [] := fun h => by rw [h] at hl; simp at hl; omega
    have HR : Hid (mnL p fl = trim ((List.range fn).map fun i => mulM p (nth fl i) (powM p (nth fl (fn - 1)) (p - 2)))) := by
      show _ = _
      unfold mnL scL
      rw [if_neg hne, hU, hl]
    have HU := Alg.hid hU
    have hfb : ((fn : Int) == 0) = false := by simp; omega
    have hf1 : (1 : Int) ≤ (fn : Int) := by omega
    have hinv : powM p (nth fl (fn - 1)) (p - 2) < p := powM_lt _ _ _ (by omega)
    clear hU hne hl
    go_enter Tryd.func23, Tryd.ntmps23
    go_wp2
    generalize hW0 : ((w.alloc (.cells #[.int .u32 (p : Int), .slice (some ⟨b, off, none⟩) fn fcap] 25)).alloc (.cells #[.int .u32 0, .slice none 0 0] 25)) = W0 at hbx ⊢
    clear hW0
    have K1 : Hid (∀ W, Boxes w W [#[.int .u32 (p : Int), .slice (some ⟨b, off, none⟩) fn fcap], #[.int .u32 0, .slice none 0 0]] → (fun W => W.cell? ⟨w.heap.size, 0, none⟩ = some (.int .u32 (p : Int)) ∧ W.cell? ⟨w.heap.size, 1, none⟩ = some (.slice (some ⟨b, off, none⟩) fn fcap)) W) := fun W h => ⟨h.cell' 0 0 _ _ rfl rfl, h.cell' 0 1 _ _ rfl rfl⟩
    have hsz : w.heap.size + 2 ≤ W0.heap.size := hbx.size
    refine wp_region_noPanic ?_
    refine wp_region_held2 8 [(1, 0), (1, 1), (1, 2), (1, 3), (1, 4), (0, 5), (0, 6), (2, 7), (3, 8)] (fun W => W.cell? ⟨w.heap.size, 0, none⟩ = some (.int .u32 (p : Int)) ∧ W.cell? ⟨w.heap.size, 1, none⟩ = some (.slice (some ⟨b, off, none⟩) fn fcap)) (fun _ => True) (by kernel_rfl) (by kernel_rfl) (fun _ _ _ _ _ h => h) (fun _ _ => trivial) (K1.out _ hbx.drew) (fun _ => ?_)
    simp only [pick2, List.getElem?_cons_succ, List.getElem?_cons_zero]
    iterate 5
      (refine held2_early (v := ?_) (by rfl) ?_ ?_
       rotate_left
       · intro W hSw; (try dsimp only at hSw); go_simp; (try with_reducible rfl))
      try simp only [Act.put, List.setIfInBounds_toArray, List.set_cons_zero, List.set_cons_succ]
    refine held2_loud (fun K hK => ?_)
    go_simp
    refine (ref_inverse p (nth fl (fn - 1)) W0.drew hp0 hp hlt).mono ?_
    rintro e w2 ⟨rfl, hw⟩
    have hx2 : Boxes w w2 [#[.int .u32 (p : Int), .slice (some ⟨b, off, none⟩) fn fcap], #[.int .u32 0, .slice none 0 0]] := by rw [hw]; exact hbx.drew
    have hs2 : w.heap.size + 2 ≤ w2.heap.size := hx2.size
    clear hw
    refine hK.out _ _ (K1.out _ hx2) (fun _ => ?_)
    clear hK K
    try simp only [Act.put, List.setIfInBounds_toArray, List.set_cons_zero, List.set_cons_succ]
    refine held2_loud (fun K hK => ?_)
    go_simp
    refine (ref_Scale p (powM p (nth fl (fn - 1)) (p - 2)) (some ⟨b, off, none⟩) fn fcap fl w2 (hf.mono hx2.below) (by omega) hp (by omega) hfn).mono ?_
    rintro e w3 ⟨a2, n2, c2, rfl, hs3, hb3, hp3⟩
    have hx3 := hx2.mono hb3
    refine hK.out _ _ (K1.out _ hx3) (fun _ => ?_)
    clear hK K
    try simp only [Act.put, List.setIfInBounds_toArray, List.set_cons_zero, List.set_cons_succ]
    refine held2_quiet (v := ?_) (by rfl) ?_ ?_
    rotate_left
    · intro W hSw; (try dsimp only at hSw); go_simp; (try with_reducible rfl)
    try simp only [Act.put, List.setIfInBounds_toArray, List.set_cons_zero, List.set_cons_succ]
    have e0 : w3.cell? ⟨w.heap.size + 1, 0, none⟩ = some (.int .u32 0) := hx3.cell' 1 0 _ _ rfl rfl
    have e1 : w3.cell? ⟨w.heap.size + 1, 1, none⟩ = some (.slice none 0 0) := hx3.cell' 1 1 _ _ rfl rfl
    have e2 : w3.frozen? ⟨w.heap.size + 1, 0, none⟩ = false := hx3.frozen' 1 0 (by simp)
    have e3 : w3.frozen? ⟨w.heap.size + 1, 1, none⟩ = false := hx3.frozen' 1 1 (by simp)
    have hof : Off a2 n2 (w.heap.size + 1) := hp3.off0 (by omega)
    refine held2_store (fun K hK => ?_)
    go_simp
    refine hK.out _ _ trivial (fun _ => ?_)
    clear hK K
    try simp only [Act.put, List.setIfInBounds_toArray, List.set_cons_zero, List.set_cons_succ]
    refine held2_nil ?_
    refine NoPanic.normal ?_
    go_wp2
    (try simp only [Exit.inBlock, Exit.then])
    refine bodyPost_ret (v := .tuple #[.int .u32 (nth fl (fn - 1) : Nat), .agg #[.int .u32 (p : Int), .slice a2 n2 c2]]) (by simp [results, Tryd.results23, go_sem, e0, e1]) rfl ?_
    rw [HR.out, HU.out]
    exact ⟨_, _, _, rfl, (hs3.setCell hof _).setCell hof _, ((hx3.below.setCell (p := ⟨w.heap.size + 1, 0, none⟩) (by simp) _).setCell (p := ⟨w.heap.size + 1, 1, none⟩) (by simp) _)⟩
end Go.Proofs.YtcefhnmhcapccaaDoor
end
section
open Alg Go Go.RowKit
namespace Alg
open Poly
theorem scL_m1 {p : Nat} [NeZero p] (hp : 1 < p) (g : List Nat) : pol p (scL p (p - 1) g) = -pol p g := by
  rw [(scL_ok _ _).1]
  have e : (Fp.of (p - 1) : Fp p) = -1 := by rw [Fp.of_neg (by omega), Fp.of_one]
  rw [e, C_neg, C_one, CR.neg_mul, CR.one_mul]
end Alg
namespace Go.Proofs.YtcefhnmhcapccaaDoor
open Go.RowKit
theorem subL_eq {p : Nat} [NeZero p] (hp : 1 < p) {f g : List Nat} (cg : Canon p g) : sbL p f g = subL p f g := by
  have e : subL p f g = addL p f (scL p (p - 1) g) := rfl
  rw [e]
  refine canon_ext (sbL_ok f g (canon_le cg)).2 (addL_ok' (p := p) _ _).2 ?_
  rw [(sbL_ok f g (canon_le cg)).1, (addL_ok' _ _).1, scL_m1 hp]
theorem subL_len (p : Nat) (f g : List Nat) : (subL p f g).length ≤ max f.length g.length := by
  have e : subL p f g = addL p f (scL p (p - 1) g) := rfl
  have h1 := addL_len p f (scL p (p - 1) g)
  have h2 := scL_len p (p - 1) g
  rw [e]
  omega
theorem ref_AddL (p : Nat) (fa : Option Addr) (fn fcap : Nat) (fl : List Nat) (ga : Option Addr) (gn gcap : Nat) (gl : List Nat) (q : Int) (w : World) (hf : Sl w fa fn fcap fl) (hg : Sl w ga gn gcap gl)
    (hp0 : 0 < p) (hp : p < 4294967296) (hfn : fn ≤ 1099511627776) (hgn : gn ≤ 1099511627776) :
    Calls Tryd.prog 32 #[.agg #[.int .u32 p, .slice fa fn fcap], .agg #[.int .u32 q, .slice ga gn gcap]] w (RetP p (addL p fl gl) [] w) := by
  unfold addL
  rw [hf.len, hg.len]
  exact ref_Add p fa fn fcap fl ga gn gcap gl q w hf hg hp0 hp hfn hgn
theorem ppoly_SubL (p : Nat) (fa : Option Addr) (fn fcap : Nat) (fl : List Nat) (ga : Option Addr) (gn gcap : Nat) (gl : List Nat) (q : Int) (w : World) (hf : Sl w fa fn fcap fl) (hg : Sl w ga gn gcap gl)
    (hp0 : 0 < p) (hp : p < 4294967296) (hfn : fn ≤ 1099511627776) (hgn : gn ≤ 1099511627776) (hgb : ∀ i, nth gl i ≤ p) :
    Calls Tryd.prog 33 #[.agg #[.int .u32 p, .slice fa fn fcap], .agg #[.int .u32 q, .slice ga gn gcap]] w (RetP p (sbL p fl gl) [] w) := by
  unfold sbL
  rw [hf.len, hg.len]
  exact ppoly_Sub p fa fn fcap fl ga gn gcap gl q w hf hg hp0 hp hgb hfn hgn
theorem ppoly_ScaleL (p c : Nat) (fa : Option Addr) (fn fcap : Nat) (fl : List Nat) (w : World) (hf : Sl w fa fn fcap fl)
    (hp0 : 0 < p) (hp : p < 4294967296) (hcc : c < 4294967296) (hfn : fn ≤ 1099511627776) :
    Calls Tryd.prog 30 #[.agg #[.int .u32 p, .slice fa fn fcap], .int .u32 c] w (RetP p (scL p c fl) [] w) := by
  unfold scL
  rw [hf.len]
  exact ppoly_Scale p c fa fn fcap fl w hf hp0 hp hcc hfn
theorem ref_ScaleL (p c : Nat) (fa : Option Addr) (fn fcap : Nat) (fl : List Nat) (w : World) (hf : Sl w fa fn fcap fl)
    (hp0 : 0 < p) (hp : p < 4294967296) (hcc : c < 4294967296) (hfn : fn ≤ 1099511627776) :
    Calls Tryd.prog 31 #[.agg #[.int .u32 p, .slice fa fn fcap], .int .u32 c] w (RetP p (scL p c fl) [] w) := by
  unfold scL
  rw [hf.len]
  exact ref_Scale p c fa fn fcap fl w hf hp0 hp hcc hfn
set_option maxRecDepth 100000 in
set_option maxHeartbeats 2000000 in
theorem sums_walk (hA : Awake) (p : Nat) (fa : Option Addr) (fn fcap : Nat) (fl : List Nat) (q : Nat) (ga : Option Addr) (gn gcap : Nat) (gl : List Nat) (a : Nat) (w : World) (hf : Sl w fa fn fcap fl) (hg : Sl w ga gn gcap gl) (hp : p < 4294967296) (hq : q < 4294967296) (hav : a < 4294967296) :
    Calls Tryd.prog 7 #[.agg #[.int .u32 (p : Int), .slice fa fn fcap], .agg #[.int .u32 (q : Int), .slice ga gn gcap], .int .u32 a] w fun e w' => e = .returned (.bool true) ∧ Below w.heap.size w w' := by
  have hbx := boxes2 w #[.int .u32 (p : Int), .slice fa fn fcap] #[.int .u32 (q : Int), .slice ga gn gcap] 25 25
  go_enter Tryd.func7, Tryd.ntmps7
  go_wp2_with fail
  refine (hA _).mono ?_
  rintro e w1 ⟨rfl, hb1⟩
  have hx1 := hbx.mono hb1
  clear hbx
  obtain ⟨d0, d1⟩ := hx1.at0 rfl
  obtain ⟨d2, d3⟩ := hx1.at1 rfl
  go_wp2_with fail
  refine (ref_Pair p fa fn fcap fl q ga gn gcap gl 20 w1 (hf.mono hx1.below) (hg.mono hx1.below) hp hq (by omega)).mono ?_
  rintro e w2 ⟨rfl, hb2⟩
  have hx2 := hx1.mono hb2
  clear d0 d1 d2 d3 hx1
  cases hpb : pairB p fl q gl 20 with
  | false =>
    go_wp2
    go_ret
    exact ⟨rfl, hx2.below⟩
  | true =>
      obtain ⟨rfl, lf, lg, cf, cg, hpr, hp2⟩ := pairB_true hpb
      clear hpb
      rw [hf.len] at lf
      rw [hg.len] at lg
      have hp1 : 1 < p := hpr.1
      have hp0 : 0 < p := by omega
      haveI hne : NeZero p := ⟨by omega⟩
      obtain ⟨km, hkm0⟩ : ∃ km, km = a % p := ⟨_, rfl⟩
      have hkm : km < 4294967296 := by have := Nat.mod_lt a hp0; omega
      have m1 : (a : Int).tmod (p : Int) = (km : Int) := by rw [hkm0, Int.tmod_eq_emod_of_nonneg (by omega)]; simp
      have m2 : IntKind.u32.wrap (km : Int) = (km : Int) := IntWalk.u32_in _ (by omega)
      have m4 : ((p : Int) == 0) = false := by simp; omega
      have m5 : ¬ p = 0 := by omega
      clear hkm0
      have ES : Hid (∀ l, sameB p l p l = true) := fun l => sameB_true.2 ⟨rfl, rfl⟩
      have E2 : Hid (sameB p (sbL p fl gl) p (subL p fl gl) = true) := sameB_true.2 ⟨rfl, subL_eq hp1 cg⟩
      have hgp := canon_le cg
      have hfl := nth_lt cf
      have hgl := nth_lt cg
      obtain ⟨X2, V2⟩ : ∃ x, Hid (valL p fl km = x) := ⟨_, rfl⟩
      have z2 : ((X2 : Int) != (X2 : Int)) = false := bne_no rfl
      obtain ⟨UU, HU⟩ : ∃ x, Hid (mnU fl = x) := ⟨_, rfl⟩
      have z3 : ((UU : Int) != (UU : Int)) = false := bne_no rfl
      obtain ⟨d0, d1⟩ := hx2.at0 rfl
      go_wp2_with fail
      refine (ppoly_Monic p fa fn fcap fl w2 (hf.mono hx2.below) cf hp1 hp (by omega)).mono ?_
      rw [HU.out]
      rintro e w3 ⟨ma, mn, mcap, rfl, hm, hb3⟩
      have hy3 := boxes1 w3 #[.int .u32 (p : Int), .slice ma mn mcap] 25
      have hx3 := (hx2.mono hb3).mono hy3.below
      clear d0 d1 hx2
      obtain ⟨d0, d1⟩ := hx3.at0 rfl
      go_wp2_with fail
      refine (ref_Monic p fa fn fcap fl _ (hf.mono hx3.below) hp1 hp (by omega)).mono ?_
      rw [HU.out]
      rintro e w4 ⟨na, nn, ncap, rfl, hn, hb4⟩
      have hz5 := boxes1 w4 #[.int .u32 (p : Int), .slice na nn ncap] 25
      have hx5 := (hx3.mono hb4).mono hz5.below
      have hy5 := (hy3.mono hb4).mono hz5.below
      clear d0 d1 hx3 hy3
      have hml : (mnL p fl).length ≤ 21 := by
        unfold mnL
        split
        · simp
        · have h1 := scL_len p (powM p (mnU fl) (p - 2)) fl
          have h2 := hf.len
          omega
      have hmn : mn ≤ 21 := by have := hm.len; omega
      have hnn : nn ≤ 21 := by have := hn.len; omega
      have K : Hid (∀ W, Boxes w W [#[.int .u32 (p : Int), .slice fa fn fcap], #[.int .u32 (p : Int), .slice ga gn gcap]] → Boxes w3 W [#[.int .u32 (p : Int), .slice ma mn mcap]] → Boxes w4 W [#[.int .u32 (p : Int), .slice na nn ncap]] → W.cell? ⟨w.heap.size, 0, none⟩ = some (.int .u32 (p : Int)) ∧ W.cell? ⟨w.heap.size, 1, none⟩ = some (.slice fa fn fcap) ∧ W.cell? ⟨w.heap.size + 1, 0, none⟩ = some (.int .u32 (p : Int)) ∧ W.cell? ⟨w.heap.size + 1, 1, none⟩ = some (.slice ga gn gcap) ∧ W.cell? ⟨w3.heap.size, 0, none⟩ = some (.int .u32 (p : Int)) ∧ W.cell? ⟨w3.heap.size, 1, none⟩ = some (.slice ma mn mcap) ∧ W.cell? ⟨w4.heap.size, 0, none⟩ = some (.int .u32 (p : Int)) ∧ W.cell? ⟨w4.heap.size, 1, none⟩ = some (.slice na nn ncap) ∧ Boxes w W [#[.int .u32 (p : Int), .slice fa fn fcap], #[.int .u32 (p : Int), .slice ga gn gcap]] ∧ Boxes w3 W [#[.int .u32 (p : Int), .slice ma mn mcap]] ∧ Boxes w4 W [#[.int .u32 (p : Int), .slice na nn ncap]]) :=
        fun W h h' h'' => ⟨h.at0 rfl |>.1, h.at0 rfl |>.2, h.at1 rfl |>.1, h.at1 rfl |>.2, h'.at0 rfl |>.1, h'.at0 rfl |>.2, h''.at0 rfl |>.1, h''.at0 rfl |>.2, h, h', h''⟩
      go_wp2
      generalize hw5 : w4.alloc (.cells #[.int .u32 (p : Int), .slice na nn ncap] 25) = w5 at hx5 hy5 hz5 ⊢
      clear hw5
      replace hx5 := hx5.drew
      replace hy5 := hy5.drew
      replace hz5 := hz5.drew
      go_region_held3 (fun W => W.cell? ⟨w.heap.size, 0, none⟩ = some (.int .u32 (p : Int)) ∧ W.cell? ⟨w.heap.size, 1, none⟩ = some (.slice fa fn fcap) ∧ W.cell? ⟨w.heap.size + 1, 0, none⟩ = some (.int .u32 (p : Int)) ∧ W.cell? ⟨w.heap.size + 1, 1, none⟩ = some (.slice ga gn gcap) ∧ W.cell? ⟨w3.heap.size, 0, none⟩ = some (.int .u32 (p : Int)) ∧ W.cell? ⟨w3.heap.size, 1, none⟩ = some (.slice ma mn mcap) ∧ W.cell? ⟨w4.heap.size, 0, none⟩ = some (.int .u32 (p : Int)) ∧ W.cell? ⟨w4.heap.size, 1, none⟩ = some (.slice na nn ncap) ∧ Boxes w W [#[.int .u32 (p : Int), .slice fa fn fcap], #[.int .u32 (p : Int), .slice ga gn gcap]] ∧ Boxes w3 W [#[.int .u32 (p : Int), .slice ma mn mcap]] ∧ Boxes w4 W [#[.int .u32 (p : Int), .slice na nn ncap]])
        (first | (exact K.out _ (by assumption) (by assumption) (by assumption)) | fail)
        (first
          | (go_at_call 16; (with_reducible refine (ref_Same p ma mn mcap (mnL p fl) p na nn ncap (mnL p fl) w5.drew (hm.mono hy5.below) (hn.mono hz5.below) (by omega)).mono ?_); rw [ES.out]; rintro e w6 ⟨rfl, hb6⟩; have hx6 := hx5.mono hb6; have hy6 := hy5.mono hb6; have hz6 := hz5.mono hb6)
          | (go_at_call 25; (with_reducible refine (ppoly_Value p km fa fn fcap fl w6 (hf.mono hx6.below) hp0 hp hkm (by omega)).mono ?_); rw [V2.out]; rintro e w7 ⟨rfl, hb7⟩; have hx7 := hx6.mono hb7; have hy7 := hy6.mono hb7; have hz7 := hz6.mono hb7)
          | (go_at_call 28; (with_reducible refine (ref_Value p km fa fn fcap fl w7 (hf.mono hx7.below) hp0 hp hkm (by omega)).mono ?_); rw [V2.out]; rintro e w8 ⟨rfl, hb8⟩; have hx8 := hx7.mono hb8; have hy8 := hy7.mono hb8; have hz8 := hz7.mono hb8)
          | (go_at_call 26; (with_reducible refine (ppoly_Diff p fa fn fcap fl w8 (hf.mono hx8.below) hp0 hp (by omega)).mono ?_); rintro e w9 ⟨a9, n9, c9, rfl, hs9, hb9, _⟩; have hx9 := hx8.mono hb9; have hy9 := hy8.mono hb9; have hz9 := hz8.mono hb9; have hn9 : n9 ≤ 21 := (by have h1 := hs9.len; have h2 := dfL_len (p := p) fl; have h3 := Sl.len (hf.mono hx8.below); omega))
          | (go_at_call 29; (with_reducible refine (ref_Diff p fa fn fcap fl w9 (hf.mono hx9.below) hp0 hp (by omega)).mono ?_); rintro e w10 ⟨a10, n10, c10, rfl, hs10, hb10, _⟩; have hx10 := hx9.mono hb10; have hy10 := hy9.mono hb10; have hz10 := hz9.mono hb10; have hn10 : n10 ≤ 21 := (by have h1 := hs10.len; have h2 := dfL_len (p := p) fl; have h3 := Sl.len (hf.mono hx9.below); omega))
          | (go_at_call 16; (with_reducible refine (ref_Same p a9 n9 c9 (dfL p fl) p a10 n10 c10 (dfL p fl) w10 (hs9.mono hb10) hs10 (by omega)).mono ?_); rw [ES.out]; rintro e w11 ⟨rfl, hb11⟩; have hx11 := hx10.mono hb11; have hy11 := hy10.mono hb11; have hz11 := hz10.mono hb11)
          | (go_at_call 30; (with_reducible refine (ppoly_ScaleL p km fa fn fcap fl w11 (hf.mono hx11.below) hp0 hp hkm (by omega)).mono ?_); rintro e w12 ⟨a12, n12, c12, rfl, hs12, hb12, _⟩; have hx12 := hx11.mono hb12; have hy12 := hy11.mono hb12; have hz12 := hz11.mono hb12; have hn12 : n12 ≤ 21 := (by have h1 := hs12.len; have h2 := scL_len p km fl; have h3 := Sl.len (hf.mono hx11.below); omega))
          | (go_at_call 31; (with_reducible refine (ref_ScaleL p km fa fn fcap fl w12 (hf.mono hx12.below) hp0 hp hkm (by omega)).mono ?_); rintro e w13 ⟨a13, n13, c13, rfl, hs13, hb13, _⟩; have hx13 := hx12.mono hb13; have hy13 := hy12.mono hb13; have hz13 := hz12.mono hb13; have hn13 : n13 ≤ 21 := (by have h1 := hs13.len; have h2 := scL_len p km fl; have h3 := Sl.len (hf.mono hx12.below); omega))
          | (go_at_call 16; (with_reducible refine (ref_Same p a12 n12 c12 (scL p km fl) p a13 n13 c13 (scL p km fl) w13 (hs12.mono hb13) hs13 (by omega)).mono ?_); rw [ES.out]; rintro e w14 ⟨rfl, hb14⟩; have hx14 := hx13.mono hb14; have hy14 := hy13.mono hb14; have hz14 := hz13.mono hb14)
          | fail)
      go_wp2
      replace hx14 := hx14.drew
      replace hy14 := hy14.drew
      replace hz14 := hz14.drew
      go_region_held3 (fun W => W.cell? ⟨w.heap.size, 0, none⟩ = some (.int .u32 (p : Int)) ∧ W.cell? ⟨w.heap.size, 1, none⟩ = some (.slice fa fn fcap) ∧ W.cell? ⟨w.heap.size + 1, 0, none⟩ = some (.int .u32 (p : Int)) ∧ W.cell? ⟨w.heap.size + 1, 1, none⟩ = some (.slice ga gn gcap) ∧ W.cell? ⟨w3.heap.size, 0, none⟩ = some (.int .u32 (p : Int)) ∧ W.cell? ⟨w3.heap.size, 1, none⟩ = some (.slice ma mn mcap) ∧ W.cell? ⟨w4.heap.size, 0, none⟩ = some (.int .u32 (p : Int)) ∧ W.cell? ⟨w4.heap.size, 1, none⟩ = some (.slice na nn ncap) ∧ Boxes w W [#[.int .u32 (p : Int), .slice fa fn fcap], #[.int .u32 (p : Int), .slice ga gn gcap]] ∧ Boxes w3 W [#[.int .u32 (p : Int), .slice ma mn mcap]] ∧ Boxes w4 W [#[.int .u32 (p : Int), .slice na nn ncap]])
        (first | (exact K.out _ (by assumption) (by assumption) (by assumption)) | fail)
        (first
          | (go_at_call 17; (with_reducible refine (ppoly_AddL p fa fn fcap fl ga gn gcap gl p w14.drew (hf.mono hx14.below) (hg.mono hx14.below) hp0 hp (by omega) (by omega)).mono ?_); rintro e w15 ⟨a15, n15, c15, rfl, hs15, hb15, _⟩; have hx15 := hx14.mono hb15; have hy15 := hy14.mono hb15; have hz15 := hz14.mono hb15; have hn15 : n15 ≤ 21 := (by have h1 := hs15.len; have h2 := addL_len p fl gl; have h3 := Sl.len (hf.mono hx14.below); have h4 := Sl.len (hg.mono hx14.below); omega))
          | (go_at_call 32; (with_reducible refine (ref_AddL p fa fn fcap fl ga gn gcap gl p w15 (hf.mono hx15.below) (hg.mono hx15.below) hp0 hp (by omega) (by omega)).mono ?_); rintro e w16 ⟨a16, n16, c16, rfl, hs16, hb16, _⟩; have hx16 := hx15.mono hb16; have hy16 := hy15.mono hb16; have hz16 := hz15.mono hb16; have hn16 : n16 ≤ 21 := (by have h1 := hs16.len; have h2 := addL_len p fl gl; have h3 := Sl.len (hf.mono hx15.below); have h4 := Sl.len (hg.mono hx15.below); omega))
          | (go_at_call 16; (with_reducible refine (ref_Same p a15 n15 c15 (addL p fl gl) p a16 n16 c16 (addL p fl gl) w16 (hs15.mono hb16) hs16 (by omega)).mono ?_); rw [ES.out]; rintro e w17 ⟨rfl, hb17⟩; have hx17 := hx16.mono hb17; have hy17 := hy16.mono hb17; have hz17 := hz16.mono hb17)
          | (go_at_call 33; (with_reducible refine (ppoly_SubL p fa fn fcap fl ga gn gcap gl p w17 (hf.mono hx17.below) (hg.mono hx17.below) hp0 hp (by omega) (by omega) hgp).mono ?_); rintro e w18 ⟨a18, n18, c18, rfl, hs18, hb18, _⟩; have hx18 := hx17.mono hb18; have hy18 := hy17.mono hb18; have hz18 := hz17.mono hb18; have hn18 : n18 ≤ 21 := (by have h1 := hs18.len; have h2 := sbL_len p fl gl; have h3 := Sl.len (hf.mono hx17.below); have h4 := Sl.len (hg.mono hx17.below); omega))
          | (go_at_call 34; (with_reducible refine (ref_Sub p fa fn fcap fl ga gn gcap gl w18 (hf.mono hx18.below) (hg.mono hx18.below) hp0 hp (by omega) (by omega)).mono ?_); rintro e w19 ⟨a19, n19, c19, rfl, hs19, hb19, _⟩; have hx19 := hx18.mono hb19; have hy19 := hy18.mono hb19; have hz19 := hz18.mono hb19; have hn19 : n19 ≤ 21 := (by have h1 := hs19.len; have h2 := subL_len p fl gl; have h3 := Sl.len (hf.mono hx18.below); have h4 := Sl.len (hg.mono hx18.below); omega))
          | (go_at_call 16; (with_reducible refine (ref_Same p a18 n18 c18 (sbL p fl gl) p a19 n19 c19 (subL p fl gl) w19 (hs18.mono hb19) hs19 (by omega)).mono ?_); rw [E2.out]; rintro e w20 ⟨rfl, hb20⟩; have hx20 := hx19.mono hb20; have hy20 := hy19.mono hb20; have hz20 := hz19.mono hb20)
          | (go_at_call 18; (with_reducible refine (ppoly_Mul p fa fn fcap fl ga gn gcap gl p w20 (hf.mono hx20.below) (hg.mono hx20.below) hp0 hp (by omega) (by omega)).mono ?_); rintro e w21 ⟨a21, n21, c21, rfl, hs21, hb21, _⟩; have hx21 := hx20.mono hb21; have hy21 := hy20.mono hb21; have hz21 := hz20.mono hb21; have hn21 : n21 ≤ 42 := (by have h1 := hs21.len; have h2 := mulL_len p fl gl; have h3 := Sl.len (hf.mono hx20.below); have h4 := Sl.len (hg.mono hx20.below); omega))
          | (go_at_call 24; (with_reducible refine (ref_Mul p fa fn fcap fl ga gn gcap gl p w21 (hf.mono hx21.below) (hg.mono hx21.below) hp0 hp (by omega) (by omega) hfl hgl).mono ?_); rintro e w22 ⟨a22, n22, c22, rfl, hs22, hb22, _⟩; have hx22 := hx21.mono hb22; have hy22 := hy21.mono hb22; have hz22 := hz21.mono hb22; have hn22 : n22 ≤ 42 := (by have h1 := hs22.len; have h2 := mulL_len p fl gl; have h3 := Sl.len (hf.mono hx21.below); have h4 := Sl.len (hg.mono hx21.below); omega))
          | (go_at_call 16; (with_reducible refine (ref_Same p a21 n21 c21 (mulL p fl gl) p a22 n22 c22 (mulL p fl gl) w22 (hs21.mono hb22) hs22 (by omega)).mono ?_); rw [ES.out]; rintro e w23 ⟨rfl, hb23⟩; have hx23 := hx22.mono hb23; have hy23 := hy22.mono hb23; have hz23 := hz22.mono hb23)
          | fail)
      all_goals
        go_wp2
        go_ret
        exact ⟨rfl, hx23.below⟩
end Go.Proofs.YtcefhnmhcapccaaDoor
end
