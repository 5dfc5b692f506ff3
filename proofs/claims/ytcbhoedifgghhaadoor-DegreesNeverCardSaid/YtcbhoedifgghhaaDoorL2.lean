/- Contracts of degrees.steps, the reference's primes, the reference's Power. -/
import Derived.Test.YtcbhoedifgghhaaDoorV2
import Derived.Test.YtcbhoedifgghhaaDoorA20
open Alg Go Go.RowKit
namespace Alg
/-- the call hands back a slice of numbers -/
def RetInts (l : List Nat) (w : World) (e : Ending) (w' : World) : Prop :=
  ∃ a n cap, e = .returned (.slice a n cap) ∧ SlF fint w' a n cap l ∧ Below w.heap.size w w' ∧ (n = 0 ∨ ∃ g, a = some ⟨g, 0, none⟩ ∧ w.heap.size ≤ g)
theorem RetInts.mk {l : List Nat} {n : Nat} {w wr : World} {v : Value} {e : TypeId} {B : Nat} (h : GrF fint wr e B v n l) (hb : Below w.heap.size w wr) (hB : w.heap.size ≤ B) : RetInts l w (.returned v) wr := by
  obtain ⟨a, cap, rfl, h1, h2⟩ := h.sl
  refine ⟨a, n, cap, rfl, h1, hb, ?_⟩
  rcases h2 with h2 | ⟨g, h3, h4⟩
  · exact Or.inl h2
  · exact Or.inr ⟨g, h3, by omega⟩
theorem SlF.ofPos {f : Nat → Value} {w : World} {a : Option Addr} {n cap : Nat} {l : List Nat} (h : SlF f w a n cap l) (h0 : 0 < n) : ∃ b off, a = some ⟨b, off, none⟩ := by
  rcases h.rd with h1 | ⟨b, off, ha, _⟩
  · omega
  · exact ⟨b, off, ha⟩
theorem SlF.nthCell {f : Nat → Value} {w : World} {b off : Nat} {n cap : Nat} {l : List Nat} (h : SlF f w (some ⟨b, off, none⟩) n cap l) {i : Nat} (hi : i < n) : w.cell? ⟨b, off + i, none⟩ = some (f (nth l i)) := by
  rcases h.rd with h1 | ⟨b', off', ha, hc⟩
  · omega
  · obtain ⟨rfl, rfl⟩ : b = b' ∧ off = off' := by simpa using ha
    exact hc i hi
theorem own_step {w wr w1 : World} {v : Value} {e : TypeId} {o : Obj} {m g1 c1 Q : Nat} {l : List Nat} (hq : GrF fint wr e w.heap.size v m l) (hb : Below w.heap.size w wr)
    (hown1 : w1.ownsRow w.heap.size e 1 (.slice (some ⟨g1, 0, none⟩) (m + 1) c1) (m + 1) (l.map fint ++ [.int .i64 (Q : Int)])) (hgrow1 : (wr.alloc o).grownBy w1 v.ownBlock) :
    GrF fint w1 e w.heap.size (.slice (some ⟨g1, 0, none⟩) (m + 1) c1) (m + 1) (l ++ [Q]) ∧ Below w.heap.size w w1 :=
  ⟨GrF.snoc (f := fint) hown1, (hb.alloc hb.size o).grown hgrow1 (Nat.le_trans hb.size (size_le_alloc _ _)) (fun k hk => hq.row k hk)⟩
end Alg
namespace Go.Proofs.YtcbhoedifgghhaaDoor
open Go.RowKit
set_option maxRecDepth 100000 in
set_option maxHeartbeats 1000000 in
theorem deg_steps (N : Nat) (w : World) (h0 : 0 < N) (hN : N ≤ 1000000) :
    Calls Tryd.prog 69 #[.int .i64 (N : Int)] w (RetInts (stepsL N) w) := by
  obtain ⟨ie, hie, he0, he1, he2⟩ := info_parts Tryd.infoFe
  have HJ := Alg.hid hie
  have HE0 := Alg.hid he0
  have HE1 := Alg.hid he1
  have HE2 := Alg.hid he2
  clear hie he0 he1 he2
  go_enter Tryd.func69, Tryd.ntmps69
  go_wp2_with fail
  refine (prime_Factor N w h0 (by omega)).mono ?_
  rintro e w1 ⟨a, n, cap, l, b, cap', ks, rfl, hF, hs, hk, hb1, _, _⟩
  clear hk
  have hl : l = prl N := prl_of h0 hF.up hF.iff
  subst hl
  have hnl := hs.len
  have hnN : n ≤ N := by rw [← hnl]; exact prl_len N
  have HPR := Alg.hid (fun i (hi : i < n) => (mem_prl h0 _).1 (nth_memL (l := prl N) (i := i) (by omega)))
  have HF : Hid (SlF f64 w1 a n cap (prl N)) := hs
  have hle := hs.le
  have hcap := hs.cap
  have HB1 := Alg.hid hb1
  clear hF hs hnl
  go_wp2
  go_loopw [3, 18] (fun v i wr => ∃ j : Nat, i = .int .i64 j ∧ j ≤ n ∧ Hid (GrF fint wr 3 w1.heap.size v j (((prl N).take j).map (N / ·))) ∧ Hid (Below w1.heap.size w1 wr)) (fun _ i _ => n - (intOf i).toNat)
  case atStart => exact ⟨0, rfl, Nat.zero_le _, by rw [List.take_zero]; exact GrF.nil _ _ _ _, Below.refl _ _⟩
  case round =>
    obtain ⟨j, rfl, hjn, hg, hb⟩ := hrel
    by_cases hj : j < n
    · obtain ⟨ba, boff, rfl⟩ := HF.out.ofPos (by omega)
      have hcell0 := (HF.out.mono hb.out).nthCell hj
      have hpr := HPR.out j hj
      obtain ⟨q, hq⟩ : ∃ q, q = nth (prl N) j := ⟨_, rfl⟩
      rw [← hq] at hcell0 hpr
      have hq2 := hpr.1.1
      have hqN := Nat.le_of_dvd h0 hpr.2
      have hcell : wr.cell? ⟨ba, boff + j, none⟩ = some (.int .u64 (q : Int)) := hcell0
      clear hcell0
      have hqz : ¬ (q : Int) = 0 := by omega
      have hj' : (j : Int) < (n : Int) := by omega
      obtain ⟨k, hk⟩ : ∃ k, k = N / q := ⟨_, rfl⟩
      have ek : (N : Int) / (q : Int) = (k : Int) := by rw [hk]; simp
      have hkN : k ≤ N := by rw [hk]; exact Nat.div_le_self _ _
      have HK : Hid (((prl N).take (j + 1)).map (N / ·) = ((prl N).take j).map (N / ·) ++ [k]) := by
        show _ = _
        rw [hk, hq]; exact take_map_succ _ _ _ (by have := HF.out.len; omega)
      have s1 : j + 1 ≤ maxLen := by unfold maxLen; omega
      have s2 : (j + 1) * 8 ≤ 140737488355328 := by omega
      have Q2 : Hid (∀ u ∈ [Value.int IntKind.i64 (k : Int)], u.oneCell' = true) := by show ∀ u ∈ _, _; simp [Value.oneCell']
      clear hk hq hpr
      go_wp2_with (first
        | (at_builtin; refine wpList_append_lies _ rfl _ _ 73 rfl w1.heap.size 3 ie (.int .i64 0) 1 8 Tryd.underlying73 HJ.out HE0.out HE1.out HE2.out rfl Nat.one_pos _ j ((((prl N).take j).map (N / ·)).map fint) rfl (hg.out.own.alloc _) ⟨wr.heap.size, 0, none⟩ 1 1 [.int .i64 (k : Int)] rfl rfl news_one Q2.out Nat.one_pos s1 s2 (Nat.le_trans hb.out.size (size_le_alloc _ _)) (wr.heap.size + 1) (World.size_alloc _ _) ?_; intro g2 c2 w2 hown2 hgrow2 hat2 hlt2)
        | fail)
      obtain ⟨HE', HB'⟩ := own_step hg.out hb.out hown2 hgrow2
      rw [← HK.out] at HE'
      have HE2' := Alg.hid HE'
      have HB2' := Alg.hid HB'
      clear hat2 hown2 hgrow2 HE' HB'
      go_roundw
      case rel => exact ⟨j + 1, by go_num, by omega, HE2', HB2'⟩
      case measure => simp [intOf]; omega
    · obtain rfl : j = n := by omega
      have hj' : ¬ (j : Int) < (j : Int) := by omega
      have e : (prl N).take j = prl N := List.take_of_length_le (by rw [HF.out.len]; exact Nat.le_refl _)
      have HG := hg.out
      rw [e] at HG
      have HG := Alg.hid HG
      go_wp2
      go_ret
      exact RetInts.mk (l := stepsL N) HG.out (HB1.out.trans (hb.out.mono HB1.out.size)) HB1.out.size
set_option maxRecDepth 100000 in
set_option maxHeartbeats 1000000 in
theorem ref15_primes (N : Nat) (w : World) (h0 : 0 < N) (hN : N ≤ 1000000) :
    Calls Tryd.prog 71 #[.int .i64 (N : Int)] w (RetInts (prl N) w) := by
  obtain ⟨ie, hie, he0, he1, he2⟩ := info_parts Tryd.infoFe
  have HJ := Alg.hid hie
  have HE0 := Alg.hid he0
  have HE1 := Alg.hid he1
  have HE2 := Alg.hid he2
  clear hie he0 he1 he2
  go_enter Tryd.func71, Tryd.ntmps71
  go_wp2
  go_loopw [0, 3, 4] (fun n v p wr => ∃ L P m : Nat, ∃ l : List Nat, n = .int .i64 L ∧ p = .int .i64 P ∧ L ≤ N ∧ P ≤ N + 1 ∧ 2 ≤ P ∧ 0 < L ∧ m + 2 ≤ P ∧ Hid (PrI N L P l) ∧ Hid (GrF fint wr 3 w.heap.size v m l) ∧ Hid (Below w.heap.size w wr)) (fun _ _ p _ => N + 2 - (intOf p).toNat)
  case atStart => exact ⟨N, 2, 0, [], rfl, rfl, Nat.le_refl _, by omega, by omega, h0, by omega, PrI.start h0, GrF.nil _ _ _ _, Below.refl _ _⟩
  case round =>
    obtain ⟨L, P, m, l, rfl, rfl, hLN, hPN, hP2, hL0, hmP, hI, hg, hb⟩ := hrel
    by_cases hPL : P ≤ L
    · have hPL' : (P : Int) ≤ (L : Int) := by omega
      by_cases hdiv : L % P = 0
      · have hdv : (L : Int) % (P : Int) = 0 := by
          have : (L : Int) % (P : Int) = ((L % P : Nat) : Int) := by simp
          rw [this, hdiv]; rfl
        have hPz : ¬ (P : Int) = 0 := by omega
        have HI2 := Alg.hid (hI.out.take hP2 hdiv)
        have s1 : m + 1 ≤ maxLen := by unfold maxLen; omega
        have s2 : (m + 1) * 8 ≤ 140737488355328 := by omega
        have Q2 : Hid (∀ u ∈ [Value.int IntKind.i64 (P : Int)], u.oneCell' = true) := by show ∀ u ∈ _, _; simp [Value.oneCell']
        clear hdiv
        go_wp2_with (first
          | (at_builtin; refine wpList_append_lies _ rfl _ _ 73 rfl w.heap.size 3 ie (.int .i64 0) 1 8 Tryd.underlying73 HJ.out HE0.out HE1.out HE2.out rfl Nat.one_pos _ m (l.map fint) rfl (hg.out.own.alloc _) ⟨wr.heap.size, 0, none⟩ 1 1 [.int .i64 (P : Int)] rfl rfl news_one Q2.out Nat.one_pos s1 s2 (Nat.le_trans hb.out.size (size_le_alloc _ _)) (wr.heap.size + 1) (World.size_alloc _ _) ?_; intro g2 c2 w2 hown2 hgrow2 hat2 hlt2)
          | fail)
        obtain ⟨HE', HB'⟩ := own_step hg.out hb.out hown2 hgrow2
        have HE2' := Alg.hid HE'
        have HB2' := Alg.hid HB'
        clear hat2 hown2 hgrow2 HE' HB' hg hb hI hdv
        go_loop [0] (fun n => ∃ X : Nat, n = .int .i64 X ∧ 0 < X ∧ X ≤ L ∧ Hid (PrJ N X P l)) (fun n => (intOf n).toNat)
        case atStart => exact ⟨L, rfl, hL0, Nat.le_refl _, HI2⟩
        case round =>
          obtain ⟨X, rfl, hX0, hXL, hJ⟩ := hrel
          by_cases hdiv : X % P = 0
          · have hdv : (X : Int) % (P : Int) = 0 := by
              have : (X : Int) % (P : Int) = ((X % P : Nat) : Int) := by simp
              rw [this, hdiv]; rfl
            obtain ⟨Y, hY⟩ : ∃ Y, Y = X / P := ⟨_, rfl⟩
            have hXY : X = P * Y := by rw [hY, Nat.mul_div_cancel' (Nat.dvd_of_mod_eq_zero hdiv)]
            have hY0 : 0 < Y := by
              rcases Nat.eq_zero_or_pos Y with h | h
              · rw [h] at hXY; omega
              · exact h
            have hYX : 2 * Y ≤ X := by rw [hXY]; exact Nat.mul_le_mul_right Y hP2
            have eY : (X : Int) / (P : Int) = (Y : Int) := by rw [hY]; simp
            have HL : Hid (PrJ N Y P l) := hJ.out.cut hXY
            clear hJ hdiv hY hXY
            go_wp2
            go_round
            case rel => exact ⟨Y, rfl, hY0, by omega, HL⟩
            case measure => simp [intOf]; omega
          · have hdv : ((X : Int) % (P : Int) == 0) = false := by
              have : (X : Int) % (P : Int) = ((X % P : Nat) : Int) := by simp
              rw [this]; simp; omega
            have HN := Alg.hid (hJ.out.next hdiv)
            clear hdiv hJ
            go_wp2
            go_roundw
            case rel => exact ⟨X, P + 1, m + 1, l ++ [P], rfl, by go_num, by omega, by omega, by omega, hX0, by omega, HN, HE2', HB2'⟩
            case measure => simp [intOf]; omega
      · have hdv : ((L : Int) % (P : Int) == 0) = false := by
          have : (L : Int) % (P : Int) = ((L % P : Nat) : Int) := by simp
          rw [this]; simp; omega
        have hPz : ¬ (P : Int) = 0 := by omega
        have HN := Alg.hid (hI.out.skip hdiv)
        clear hdiv
        go_wp2
        go_loop [0] (fun n => n = .int .i64 L) (fun n => (intOf n).toNat)
        case atStart => rfl
        case round =>
          subst hrel
          go_wp2
          go_roundw
          case rel => exact ⟨L, P + 1, m, l, rfl, by go_num, hLN, by omega, by omega, hL0, by omega, HN, hg, hb⟩
          case measure => simp [intOf]; omega
    · have hPL' : ¬ (P : Int) ≤ (L : Int) := by omega
      have hd := hI.out.done h0 hPL
      subst hd
      go_wp2
      go_ret
      exact RetInts.mk hg.out hb.out (Nat.le_refl _)
end Go.Proofs.YtcbhoedifgghhaaDoor
