/- Contracts of the reference's Power and SamePapers, and of the law's short. -/
import Derived.Test.YtcbhoedifgghhaaDoorB11
import Derived.Test.YtcbhoedifgghhaaDoorE1
open Alg Go Go.RowKit
namespace Alg
/-- what Power tells -/
def PowR (p d most R : Nat) : Prop := R ≤ 1000000000000 ∧ (p ^ d ≤ most → R = p ^ d) ∧ (most < p ^ d → most < R)
theorem pow_ge {p : Nat} (hp : 1 < p) {i d : Nat} (h : i ≤ d) : p ^ i ≤ p ^ d := Nat.pow_le_pow_right (by omega) h
/-- a paper that isn't too much -/
def ShortP (fn wn : Nat) (WL : List PB) : Prop := fn ≤ 10 ∧ wn ≤ 10 ∧ ∀ x ∈ WL, x.G.length + x.U.length + x.V.length ≤ 60
def RetSh (fn wn : Nat) (WL : List PB) (w : World) (e : Ending) (w' : World) : Prop := (∃ b, e = .returned (.bool b) ∧ (b = true → ShortP fn wn WL)) ∧ Below w.heap.size w w'
end Alg
namespace Go.Proofs.YtcbhoedifgghhaaDoor
open Go.RowKit
set_option maxRecDepth 100000 in
set_option maxHeartbeats 600000 in
theorem ref15_Power (p d most : Nat) (w : World) (hp1 : 1 < p) (hp : p < 4294967296) (hd : d ≤ 1000) (hm1 : 1 ≤ most) (hm : most ≤ 10000) :
    Calls Tryd.prog 28 #[.int .u32 (p : Int), .int .i64 (d : Int), .int .i64 (most : Int)] w fun e w' => (∃ R : Nat, e = .returned (.int .i64 (R : Int)) ∧ PowR p d most R) ∧ w' = w := by
  go_enter Tryd.func28, Tryd.ntmps28
  go_wp2
  go_loopw [7, 8] (fun n i wr => ∃ N I : Nat, n = .int .i64 N ∧ i = .int .i64 I ∧ I ≤ d ∧ N = p ^ I ∧ N ≤ 100000000000 ∧ (I = 0 ∨ p ≤ 65536) ∧ wr = w) (fun _ i _ => d - (intOf i).toNat)
  case atStart => exact ⟨1, 0, rfl, rfl, Nat.zero_le _, by rw [Nat.pow_zero], by omega, Or.inl rfl, rfl⟩
  case round =>
    obtain ⟨N, I, rfl, rfl, hI, hN, hNb, hI0, rfl⟩ := hrel
    have HN := Alg.hid hN
    by_cases hId : I < d
    · have hId' : (I : Int) < (d : Int) := by omega
      by_cases hNm : N ≤ most
      · have hNm' : (N : Int) ≤ (most : Int) := by omega
        have hpr : (p : Int) % 65536 + (p : Int) / 65536 * 65536 = (p : Int) := by omega
        obtain ⟨M, hM⟩ : ∃ M, M = N * p := ⟨_, rfl⟩
        have hM' : (N : Int) * (p : Int) = (M : Int) := by rw [hM, Int.natCast_mul]
        have hMb : M ≤ 10000 * 4294967296 := by rw [hM]; exact Nat.mul_le_mul (by omega) (by omega)
        have HM : Hid (M = p ^ (I + 1)) := by show _ = _; rw [hM, HN.out, Nat.pow_succ]
        have k1 : IntKind.u32.wrap ((p : Int) / 65536 * 65536) = (p : Int) / 65536 * 65536 := by rw [IntKind.wrap_u32]; omega
        have k2 : IntKind.u32.wrap ((p : Int) % 65536 + (p : Int) / 65536 * 65536) = (p : Int) := by rw [IntKind.wrap_u32]; omega
        have k3 : IntKind.i64.wrap (M : Int) = (M : Int) := by rw [IntKind.wrap_i64]; omega
        have k4 : IntKind.i64.wrap (p : Int) = (p : Int) := by rw [IntKind.wrap_i64]; omega
        clear hM hN
        by_cases hpb : p ≤ 65536
        · have hpb' : ¬ (p : Int) > 65536 := by omega
          have hMB : M ≤ 10000 * 65536 := by
            rw [HM.out, Nat.pow_succ, ← HN.out]; exact Nat.mul_le_mul (by omega) hpb
          go_wp2
          go_roundw
          case rel => exact ⟨M, I + 1, rfl, by go_num, by omega, HM.out, by omega, Or.inr hpb, by trivial⟩
          case measure => simp [intOf]; omega
        · have hpb' : (p : Int) > 65536 := by omega
          have hbig : Hid (most < p ^ d) := by
            show _ < _
            have := pow_ge hp1 (i := 1) (d := d) (by omega)
            rw [Nat.pow_one] at this
            omega
          have k5 : IntKind.i64.wrap ((most : Int) + 1) = (most : Int) + 1 := by rw [IntKind.wrap_i64]; omega
          go_wp2
          go_ret
          exact ⟨⟨most + 1, by simp, by omega, fun h => by have := hbig.out; omega, fun _ => by omega⟩, rfl⟩
      · have hNm' : ¬ (N : Int) ≤ (most : Int) := by omega
        have hbig : Hid (N ≤ p ^ d) := by show _ ≤ _; rw [HN.out]; exact pow_ge hp1 (by omega)
        clear hN
        go_wp2
        go_ret
        exact ⟨⟨N, rfl, by omega, fun h => by have := hbig.out; omega, fun _ => by omega⟩, rfl⟩
    · obtain rfl : I = d := by omega
      have hId' : ¬ (I : Int) < (I : Int) := by omega
      clear hN
      go_wp2
      go_ret
      exact ⟨⟨N, rfl, by omega, fun _ => HN.out, fun h => by rw [HN.out]; exact h⟩, rfl⟩
set_option maxRecDepth 100000 in
set_option maxHeartbeats 600000 in
theorem ref15_SamePapers (p : Nat) (fa : Option Addr) (fn fcap : Nat) (fl : List Nat) (wa : Option Addr) (wn wcap : Nat) (q : Nat) (ga : Option Addr) (gn gcap : Nat) (gl : List Nat) (va : Option Addr) (vn vcap : Nat) (w : World) (hf : Sl w fa fn fcap fl) (hg : Sl w ga gn gcap gl) (hfn : fn ≤ 1099511627776) :
    Calls Tryd.prog 25 #[.agg #[.int .u32 (p : Int), .slice fa fn fcap, .slice wa wn wcap], .agg #[.int .u32 (q : Int), .slice ga gn gcap, .slice va vn vcap]] w fun e w' => e = .returned (.bool (sameB p fl q gl && decide (wn = vn))) ∧ Below w.heap.size w w' := by
  have hbx := boxes2 w #[.int .u32 (p : Int), .slice fa fn fcap, .slice wa wn wcap] #[.int .u32 (q : Int), .slice ga gn gcap, .slice va vn vcap] 42 42
  go_enter Tryd.func25, Tryd.ntmps25
  generalize hbv : sameB p fl q gl = bv
  go_upto_region 1 with fail
  generalize hW0 : ((w.alloc (.cells #[.int .u32 (p : Int), .slice fa fn fcap, .slice wa wn wcap] 42)).alloc (.cells #[.int .u32 (q : Int), .slice ga gn gcap, .slice va vn vcap] 42)) = W0 at hbx ⊢
  clear hW0
  have K : Hid (∀ W, Boxes w W [#[.int .u32 (p : Int), .slice fa fn fcap, .slice wa wn wcap], #[.int .u32 (q : Int), .slice ga gn gcap, .slice va vn vcap]] → (W.cell? ⟨w.heap.size, 0, none⟩ = some (.int .u32 (p : Int)) ∧ W.cell? ⟨w.heap.size, 1, none⟩ = some (.slice fa fn fcap) ∧ W.cell? ⟨w.heap.size, 2, none⟩ = some (.slice wa wn wcap)) ∧ (W.cell? ⟨w.heap.size + 1, 0, none⟩ = some (.int .u32 (q : Int)) ∧ W.cell? ⟨w.heap.size + 1, 1, none⟩ = some (.slice ga gn gcap) ∧ W.cell? ⟨w.heap.size + 1, 2, none⟩ = some (.slice va vn vcap))) := fun W h => ⟨⟨h.cell' 0 0 _ _ rfl rfl, h.cell' 0 1 _ _ rfl rfl, h.cell' 0 2 _ _ rfl rfl⟩, ⟨h.cell' 1 0 _ _ rfl rfl, h.cell' 1 1 _ _ rfl rfl, h.cell' 1 2 _ _ rfl rfl⟩⟩
  obtain ⟨⟨d0, d1, d2⟩, e0, e1, e2⟩ := K.out W0 hbx
  go_wp2_with fail
  refine (ref_Same p fa fn fcap fl q ga gn gcap gl W0 (hf.mono hbx.below) (hg.mono hbx.below) hfn).mono ?_
  rintro e w1 ⟨rfl, hb1⟩
  rw [hbv]
  have hx1 := hbx.mono hb1
  clear d0 d1 d2 e0 e1 e2 hbx hb1
  obtain ⟨⟨d0, d1, d2⟩, e0, e1, e2⟩ := K.out w1 hx1
  cases bv with
  | false =>
    go_wp2
    go_ret
    exact ⟨rfl, hx1.below⟩
  | true =>
    by_cases hv : wn = vn
    · subst hv
      go_wp2
      go_ret
      exact ⟨by simp, hx1.below⟩
    · have hv' : ((wn : Int) == (vn : Int)) = false := by simp; omega
      go_wp2
      go_ret
      exact ⟨by rw [decide_eq_false hv]; rfl, hx1.below⟩
set_option maxRecDepth 100000 in
set_option maxHeartbeats 800000 in
theorem law15_short (p : Nat) (fa : Option Addr) (fn fcap : Nat) (wa : Option Addr) (wn wcap : Nat) (WL : List PB) (w : World) (hW : SlB w wa wn wcap WL) (hfn : fn ≤ 9223372036854775807) (hb60 : ∀ x ∈ WL, x.G.length ≤ 35184372087808 ∧ x.U.length ≤ 35184372087808 ∧ x.V.length ≤ 35184372087808) :
    Calls Tryd.prog 30 #[.agg #[.int .u32 (p : Int), .slice fa fn fcap, .slice wa wn wcap]] w (RetSh fn wn WL w) := by
  have hbx := boxes1 w #[.int .u32 (p : Int), .slice fa fn fcap, .slice wa wn wcap] 42
  have lw := hW.len
  have lew := hW.le
  have lcw := hW.cap
  go_enter Tryd.func30, Tryd.ntmps30
  go_upto_region 1 with fail
  generalize hW0 : w.alloc (.cells #[.int .u32 (p : Int), .slice fa fn fcap, .slice wa wn wcap] 42) = W0 at hbx ⊢
  clear hW0
  have K : Hid (∀ W, Boxes w W [#[.int .u32 (p : Int), .slice fa fn fcap, .slice wa wn wcap]] → (W.cell? ⟨w.heap.size, 0, none⟩ = some (.int .u32 (p : Int)) ∧ W.cell? ⟨w.heap.size, 1, none⟩ = some (.slice fa fn fcap) ∧ W.cell? ⟨w.heap.size, 2, none⟩ = some (.slice wa wn wcap))) := fun W h => ⟨h.cell' 0 0 _ _ rfl rfl, h.cell' 0 1 _ _ rfl rfl, h.cell' 0 2 _ _ rfl rfl⟩
  obtain ⟨d0, d1, d2⟩ := K.out W0 hbx
  by_cases h1 : fn > 10
  · have h1' : (fn : Int) > 10 := by omega
    go_wp2
    go_ret
    exact ⟨⟨false, rfl, fun h => by cases h⟩, hbx.below⟩
  have h1' : ¬ (fn : Int) > 10 := by omega
  by_cases h2 : wn > 10
  · have h2' : (wn : Int) > 10 := by omega
    go_wp2
    go_ret
    exact ⟨⟨false, rfl, fun h => by cases h⟩, hbx.below⟩
  have h2' : ¬ (wn : Int) > 10 := by omega
  go_wp2
  go_loopw [3] (fun i wr => ∃ I : Nat, i = .int .i64 I ∧ I ≤ wn ∧ Boxes w wr [#[.int .u32 (p : Int), .slice fa fn fcap, .slice wa wn wcap]] ∧ Hid (∀ j (h : j < WL.length), j < I → WL[j].G.length + WL[j].U.length + WL[j].V.length ≤ 60)) (fun i _ => wn - (intOf i).toNat)
  case atStart => exact ⟨0, rfl, Nat.zero_le _, hbx, fun j _ h => absurd h (by omega)⟩
  case round =>
    clear hbx d0 d1 d2
    obtain ⟨I, rfl, hI, hbx, hall⟩ := hrel
    obtain ⟨d0, d1, d2⟩ := K.out wr hbx
    by_cases hIn : I < wn
    · have hIn' : (I : Int) < (wn : Int) := by omega
      have hI0 : (0 : Int) ≤ (I : Int) := by omega
      obtain ⟨b, off, rfl⟩ := hW.ofPos (by omega)
      have hIL : I < WL.length := by omega
      have hat := hW.nthAt I hIL
      obtain ⟨a1, n1, c1, a2, n2, c2, a3, n3, c3, ⟨g0, g1, g2, g3, g4, g5⟩, s1, s2, s3⟩ := hat.mono hbx.below
      obtain ⟨t1, t2, t3⟩ := hb60 WL[I] (List.getElem_mem hIL)
      have l1 := s1.len
      have l2 := s2.len
      have l3 := s3.len
      rw [l1] at t1
      rw [l2] at t2
      rw [l3] at t3
      have HL : Hid (WL[I].G.length + WL[I].U.length + WL[I].V.length = n1 + n2 + n3) := by show _ = _; omega
      clear hat s1 s2 s3 l1 l2 l3
      by_cases h60 : n1 + n2 + n3 > 60
      · have h60' : (n1 : Int) + (n2 : Int) + (n3 : Int) > 60 := by omega
        go_wp2
        go_quiet (fail)
        go_wp2
        go_ret
        exact ⟨⟨false, rfl, fun h => by cases h⟩, (hbx.drewN _).below⟩
      · have h60' : ¬ (n1 : Int) + (n2 : Int) + (n3 : Int) > 60 := by omega
        have hall2 : Hid (∀ j (h : j < WL.length), j < I + 1 → WL[j].G.length + WL[j].U.length + WL[j].V.length ≤ 60) := fun j h hj => by
          by_cases e : j = I
          · subst e
            have := HL.out
            omega
          · exact hall.out j h (by omega)
        clear hall
        go_wp2
        go_quiet (fail)
        go_wp2
        go_roundw
        case rel => exact ⟨I + 1, by go_num, by omega, hbx.drewN _, hall2⟩
        case measure => simp [intOf]; omega
    · have hIn' : ¬ (I : Int) < (wn : Int) := by omega
      go_wp2
      go_ret
      refine ⟨⟨true, rfl, fun _ => ⟨by omega, by omega, fun x hx => ?_⟩⟩, hbx.below⟩
      obtain ⟨j, hj, rfl⟩ := List.mem_iff_getElem.1 hx
      exact hall.out j hj (by omega)
end Go.Proofs.YtcbhoedifgghhaaDoor
