/- Contract of prime.Factor. Contract of modp.Order. Contract of the reference's Order. -/
import Derived.Test.YtcdflpkbdabljaaDoorB8
import Derived.Test.YtcdflpkbdabljaaDoorW60
section
open Alg Go Go.RowKit
namespace Alg
/-- as a 64-bit number without sign; as an int -/
def f64 (c : Nat) : Value := .int .u64 (c : Int)
def fint (c : Nat) : Value := .int .i64 (c : Int)
/-- the call hands back the primes of N, and how often each -/
def RetF (N : Nat) (w : World) (e : Ending) (w' : World) : Prop :=
  ∃ a n cap l b cap' ks, e = .returned (.tuple #[.slice a n cap, .slice b n cap', .int .i64 0]) ∧ Facs N l ks ∧ SlF f64 w' a n cap l ∧ SlF fint w' b n cap' ks ∧ Below w.heap.size w w' ∧
    (n = 0 ∨ ∃ g, a = some ⟨g, 0, none⟩ ∧ w.heap.size ≤ g) ∧ (n = 0 ∨ ∃ g, b = some ⟨g, 0, none⟩ ∧ w.heap.size ≤ g)
theorem RetF.mk {N n : Nat} {l ks : List Nat} {w wr : World} {vq ve : Value} {e1 e2 : TypeId} (h : Facs N l ks) (hq : GrF f64 wr e1 w.heap.size vq n l) (he : GrF fint wr e2 w.heap.size ve n ks) (hb : Below w.heap.size w wr) :
    RetF N w (.returned (.tuple #[vq, ve, .int .i64 0])) wr := by
  obtain ⟨a, cap, rfl, h1, h2⟩ := hq.sl
  obtain ⟨b, cap', rfl, h3, h4⟩ := he.sl
  exact ⟨a, n, cap, l, b, cap', ks, rfl, h, h1, h3, hb, h2, h4⟩
theorem GrF.blt {f : Nat → Value} {w : World} {e : TypeId} {B : Nat} {v : Value} {n : Nat} {l : List Nat} (h : GrF f w e B v n l) : ∀ g, v.ownBlock = some g → g < w.heap.size := by
  intro g hg
  rcases h.shape with ⟨rfl, _⟩ | ⟨g', cap, rfl, hb, hlt, _⟩
  · simp [Value.ownBlock] at hg
  · simp [Value.ownBlock] at hg; omega
theorem GrF.kept {f : Nat → Value} {w w' : World} {e : TypeId} {B : Nat} {v : Value} {n : Nat} {l : List Nat} {row : Option Nat} (h : GrF f w e B v n l) (hg : w.grownBy w' row) (hne : v.ownBlock = none ∨ v.ownBlock ≠ row) : GrF f w' e B v n l := ⟨h.own.kept hg hne⟩
theorem ne_row {vq ve : Value} (hd : ∀ g, vq.ownBlock = some g → ve.ownBlock ≠ some g) : ve.ownBlock = none ∨ ve.ownBlock ≠ vq.ownBlock := by
  cases hv : ve.ownBlock with
  | none => exact Or.inl rfl
  | some g => exact Or.inr fun e => hd g e.symm hv
theorem fac_step {w wr w1 w2 : World} {vq ve : Value} {e1 e2 : TypeId} {m g1 c1 g2 c2 Q K : Nat} {l ks : List Nat} (hq : GrF f64 wr e1 w.heap.size vq m l) (he : GrF fint wr e2 w.heap.size ve m ks)
    (hd : ∀ g, vq.ownBlock = some g → ve.ownBlock ≠ some g) (hb : Below w.heap.size w wr)
    (hown1 : w1.ownsRow w.heap.size e1 1 (.slice (some ⟨g1, 0, none⟩) (m + 1) c1) (m + 1) (l.map f64 ++ [.int .u64 (Q : Int)])) (hgrow1 : (wr.alloc (.cells #[.int .u64 (Q : Int)] e1)).grownBy w1 vq.ownBlock)
    (hat1 : vq.ownBlock = some g1 ∨ g1 = wr.heap.size + 1) (hlt1 : g1 < w1.heap.size)
    (hown2 : w2.ownsRow w.heap.size e2 1 (.slice (some ⟨g2, 0, none⟩) (m + 1) c2) (m + 1) (ks.map fint ++ [.int .i64 (K : Int)])) (hgrow2 : (w1.alloc (.cells #[.int .i64 (K : Int)] e2)).grownBy w2 ve.ownBlock)
    (hat2 : ve.ownBlock = some g2 ∨ g2 = w1.heap.size + 1) :
    GrF f64 w2 e1 w.heap.size (.slice (some ⟨g1, 0, none⟩) (m + 1) c1) (m + 1) (l ++ [Q]) ∧ GrF fint w2 e2 w.heap.size (.slice (some ⟨g2, 0, none⟩) (m + 1) c2) (m + 1) (ks ++ [K]) ∧
    (∀ g, (Value.slice (some ⟨g1, 0, none⟩) (m + 1) c1).ownBlock = some g → (Value.slice (some ⟨g2, 0, none⟩) (m + 1) c2).ownBlock ≠ some g) ∧ Below w.heap.size w w2 := by
  have s1 : wr.heap.size + 1 ≤ w1.heap.size := by have := hgrow1.size; rw [World.size_alloc] at this; exact this
  have hne1 : ve.ownBlock ≠ some g1 := fun e => by
    rcases hat1 with h | h
    · exact hd _ h e
    · have := he.blt _ e; omega
  have hne : g1 ≠ g2 := fun e => by
    subst e
    rcases hat2 with h | h
    · exact hne1 h
    · omega
  refine ⟨((GrF.snoc (f := f64) hown1).mono ((Below.refl w1.heap.size w1).alloc (Nat.le_refl _) _)).kept hgrow2 (Or.inr (fun e => hne1 e.symm)), GrF.snoc (f := fint) hown2, fun g h1 h2 => ?_, ?_⟩
  · have h1 : some g1 = some g := h1
    have h2 : some g2 = some g := h2
    have := Option.some.inj (h1.trans h2.symm)
    exact hne this
  · have b1 := (hb.alloc hb.size (.cells #[.int .u64 (Q : Int)] e1)).grown hgrow1 (Nat.le_trans hb.size (by rw [World.size_alloc]; omega)) (fun k hk => hq.row k hk)
    exact (b1.alloc b1.size (.cells #[.int .i64 (K : Int)] e2)).grown hgrow2 (Nat.le_trans b1.size (by rw [World.size_alloc]; omega)) (fun k hk => he.row k hk)
end Alg
namespace Go.Proofs.YtcdflpkbdabljaaDoor
open Go.RowKit
theorem Tryd.infoFq : (Tryd.prog.info? 35).map (fun i => (i.zero, i.size, i.bytes)) = some (some (.int .u64 0), 1, 8) := by kernel_rfl
theorem Tryd.infoFe : (Tryd.prog.info? 3).map (fun i => (i.zero, i.size, i.bytes)) = some (some (.int .i64 0), 1, 8) := by kernel_rfl
set_option maxRecDepth 100000 in
set_option maxHeartbeats 1000000 in
theorem prime_Factor (N : Nat) (w : World) (h0 : 0 < N) (hN : N ≤ 1099511627776) :
    Calls Tryd.prog 61 #[.int .u64 N] w (RetF N w) := by
  obtain ⟨iq, hiq, hq0, hq1, hq2⟩ := info_parts Tryd.infoFq
  obtain ⟨ie, hie, he0, he1, he2⟩ := info_parts Tryd.infoFe
  have HI := Alg.hid hiq
  have HJ := Alg.hid hie
  have HQ0 := Alg.hid hq0
  have HQ1 := Alg.hid hq1
  have HQ2 := Alg.hid hq2
  have HE0 := Alg.hid he0
  have HE1 := Alg.hid he1
  have HE2 := Alg.hid he2
  clear hiq hie hq0 hq1 hq2 he0 he1 he2
  go_enter Tryd.func61, Tryd.ntmps61
  go_wp2
  go_loopw [0, 2, 3, 5] (fun n vq ve p wr => ∃ L P m : Nat, ∃ l ks : List Nat, n = .int .u64 L ∧ p = .int .u64 P ∧ L ≤ N ∧ P ≤ N + 2 ∧ Hid (FacI N L P l ks) ∧ Hid (GrF f64 wr 35 w.heap.size vq m l) ∧ Hid (GrF fint wr 3 w.heap.size ve m ks) ∧
    Hid (∀ g, vq.ownBlock = some g → ve.ownBlock ≠ some g) ∧ Hid (Below w.heap.size w wr)) (fun _ _ _ p _ => N + 2 - (intOf p).toNat)
  case atStart => exact ⟨N, 2, 0, [], [], rfl, rfl, Nat.le_refl _, by omega, FacI.start h0, GrF.nil _ _ _ _, GrF.nil _ _ _ _, (fun g h => by simp [Value.ownBlock] at h), Below.refl _ _⟩
  case round =>
    obtain ⟨L, P, m, l, ks, rfl, rfl, hLN, hPN, hI, hq, he, hd, hb⟩ := hrel
    by_cases h1 : 1 < L
    · have hPL := hI.out.PL h1
      have hP2 := hI.out.P2
      have hmP := hI.out.few
      rw [hq.out.len] at hmP
      have hPP : (P : Int) * (P : Int) ≤ 8796093022208 ∧ 0 ≤ (P : Int) * (P : Int) := by
        rcases hI.out.sq with h | h
        · omega
        · have h3 : P - 1 ≤ 1048576 := by
            rcases Nat.lt_or_ge 1048576 (P - 1) with h4 | h4
            · have := Nat.mul_le_mul (show 1048577 ≤ P - 1 by omega) (show 1048577 ≤ P - 1 by omega)
              omega
            · exact h4
          have h5 : P * P ≤ 1048577 * 1048577 := Nat.mul_le_mul (by omega) (by omega)
          have e : (P : Int) * (P : Int) = ((P * P : Nat) : Int) := by rw [Int.natCast_mul]
          omega
      obtain ⟨hPP1, hPP2⟩ := hPP
      by_cases hsq : L < P * P
      · have hsq' : (L : Int) < (P : Int) * (P : Int) := by
          have e : (P : Int) * (P : Int) = ((P * P : Nat) : Int) := by rw [Int.natCast_mul]
          omega
        have HC := Alg.hid (hI.out.cand2 h1 hsq)
        clear hsq
        have hQ2 : 2 ≤ L := by omega
        go_wp2
        go_loop [0, 6] (fun n k => ∃ X K : Nat, n = .int .u64 X ∧ k = .int .i64 K ∧ 0 < X ∧ X ≤ N ∧ K + X ≤ N + 1 ∧ Hid (L = L ^ K * X)) (fun n _ => (intOf n).toNat)
        case atStart => exact ⟨L, 0, rfl, rfl, by omega, hLN, by omega, by show _ = _; rw [Nat.pow_zero, Nat.one_mul]⟩
        case round =>
          obtain ⟨X, K, rfl, rfl, hX0, hXN, hKX, hLX⟩ := hrel
          by_cases hdiv : X % L = 0
          · have hdv : (X : Int) % (L : Int) = 0 := by
              have : (X : Int) % (L : Int) = ((X % L : Nat) : Int) := by simp
              rw [this, hdiv]; rfl
            obtain ⟨Y, hY⟩ : ∃ Y, Y = X / L := ⟨_, rfl⟩
            have hXY : X = L * Y := by rw [hY, Nat.mul_div_cancel' (Nat.dvd_of_mod_eq_zero hdiv)]
            have hY0 : 0 < Y := by
              rcases Nat.eq_zero_or_pos Y with h | h
              · rw [h] at hXY; omega
              · exact h
            have hYX : 2 * Y ≤ X := by rw [hXY]; exact Nat.mul_le_mul_right Y hQ2
            have eY : (X : Int) / (L : Int) = (Y : Int) := by rw [hY]; simp
            have HL : Hid (L = L ^ (K + 1) * Y) := by
              show _ = _
              rw [Nat.pow_succ, Nat.mul_assoc, ← hXY]; exact hLX.out
            clear hLX hdiv hY hXY
            go_wp2
            go_round
            case rel => exact ⟨Y, K + 1, rfl, by go_num, hY0, by omega, by omega, HL⟩
            case measure => simp [intOf]; omega
          · have hdv : ((X : Int) % (L : Int) == 0) = false := by
              have : (X : Int) % (L : Int) = ((X % L : Nat) : Int) := by simp
              rw [this]; simp; omega
            have hQN : L ≤ N := by omega
            by_cases k0 : K = 0
            · subst k0
              have HN := Alg.hid (hI.out.next0 HC.out hdiv hLX.out)
              clear hdiv hLX
              go_wp2
              go_roundw
              case rel => exact ⟨X, L + 1, m, l, ks, rfl, by go_num, hXN, by omega, HN, hq, he, hd, hb⟩
              case measure => simp [intOf]; omega
            · have hk0 : (0 : Int) < (K : Int) := by omega
              have HN := Alg.hid (hI.out.next1 HC.out h1 hdiv (by omega) hLX.out)
              have s1 : m + 1 ≤ maxLen := by unfold maxLen; omega
              have s2 : (m + 1) * 8 ≤ 140737488355328 := by omega
              have Q1 : Hid (∀ u ∈ [Value.int IntKind.u64 (L : Int)], u.oneCell' = true) := by show ∀ u ∈ _, _; simp [Value.oneCell']
              have Q2 : Hid (∀ u ∈ [Value.int IntKind.i64 (K : Int)], u.oneCell' = true) := by show ∀ u ∈ _, _; simp [Value.oneCell']
              clear hdiv hLX
              go_wp2_with (first
                | (at_builtin; refine wpList_append_lies _ rfl _ _ 64 rfl w.heap.size 35 iq (.int .u64 0) 1 8 Tryd.underlying64 HI.out HQ0.out HQ1.out HQ2.out rfl Nat.one_pos _ m (l.map f64) rfl (hq.out.own.alloc _) ⟨wr.heap.size, 0, none⟩ 1 1 [.int .u64 (L : Int)] rfl rfl news_one Q1.out Nat.one_pos s1 s2 (Nat.le_trans hb.out.size (size_le_alloc _ _)) (wr.heap.size + 1) (World.size_alloc _ _) ?_; intro g1 c1 w1 hown1 hgrow1 hat1 hlt1; have hE1 := Alg.hid ((he.out.mono ((Below.refl wr.heap.size wr).alloc (Nat.le_refl _) _)).kept hgrow1 (ne_row hd.out)))
                | (at_builtin; refine wpList_append_lies _ rfl _ _ 65 rfl w.heap.size 3 ie (.int .i64 0) 1 8 Tryd.underlying65 HJ.out HE0.out HE1.out HE2.out rfl Nat.one_pos _ m (ks.map fint) rfl (hE1.out.own.alloc _) ⟨w1.heap.size, 0, none⟩ 1 1 [.int .i64 (K : Int)] rfl rfl news_one Q2.out Nat.one_pos s1 s2 (Nat.le_trans (Nat.le_trans hb.out.size (Nat.le_trans (size_le_alloc wr (.cells #[.int .u64 (L : Int)] 35)) hgrow1.size)) (size_le_alloc _ _)) (w1.heap.size + 1) (World.size_alloc _ _) ?_; intro g2 c2 w2 hown2 hgrow2 hat2 hlt2)
                | fail)
              obtain ⟨HQ', HE', HD', HB'⟩ := fac_step hq.out he.out hd.out hb.out hown1 hgrow1 hat1 hlt1 hown2 hgrow2 hat2
              have HQ2' := Alg.hid HQ'
              have HE2' := Alg.hid HE'
              have HD2' := Alg.hid HD'
              have HB2' := Alg.hid HB'
              clear hat1 hat2 HQ' HE' HD' HB' hown1 hown2 hgrow1 hgrow2 hE1
              go_roundw
              case rel => exact ⟨X, L + 1, m + 1, l ++ [L], ks ++ [K], rfl, by go_num, hXN, by omega, HN, HQ2', HE2', HD2', HB2'⟩
              case measure => simp [intOf]; omega
      · have hsq' : ¬ (L : Int) < (P : Int) * (P : Int) := by
          have e : (P : Int) * (P : Int) = ((P * P : Nat) : Int) := by rw [Int.natCast_mul]
          omega
        have HC := Alg.hid (hI.out.cand1 h0 h1 (by omega))
        clear hsq
        have hQ2 : 2 ≤ P := by omega
        go_wp2
        go_loop [0, 6] (fun n k => ∃ X K : Nat, n = .int .u64 X ∧ k = .int .i64 K ∧ 0 < X ∧ X ≤ N ∧ K + X ≤ N + 1 ∧ Hid (L = P ^ K * X)) (fun n _ => (intOf n).toNat)
        case atStart => exact ⟨L, 0, rfl, rfl, by omega, hLN, by omega, by show _ = _; rw [Nat.pow_zero, Nat.one_mul]⟩
        case round =>
          obtain ⟨X, K, rfl, rfl, hX0, hXN, hKX, hLX⟩ := hrel
          by_cases hdiv : X % P = 0
          · have hdv : (X : Int) % (P : Int) = 0 := by
              have : (X : Int) % (P : Int) = ((X % P : Nat) : Int) := by simp
              rw [this, hdiv]; rfl
            obtain ⟨Y, hY⟩ : ∃ Y, Y = X / P := ⟨_, rfl⟩
            have hXY : X = P * Y := by rw [hY, Nat.mul_div_cancel' (Nat.dvd_of_mod_eq_zero hdiv)]
            have hY0 : 0 < Y := by
              rcases Nat.eq_zero_or_pos Y with h | h
              · rw [h] at hXY; omega
              · exact h
            have hYX : 2 * Y ≤ X := by rw [hXY]; exact Nat.mul_le_mul_right Y hQ2
            have eY : (X : Int) / (P : Int) = (Y : Int) := by rw [hY]; simp
            have HL : Hid (L = P ^ (K + 1) * Y) := by
              show _ = _
              rw [Nat.pow_succ, Nat.mul_assoc, ← hXY]; exact hLX.out
            clear hLX hdiv hY hXY
            go_wp2
            go_round
            case rel => exact ⟨Y, K + 1, rfl, by go_num, hY0, by omega, by omega, HL⟩
            case measure => simp [intOf]; omega
          · have hdv : ((X : Int) % (P : Int) == 0) = false := by
              have : (X : Int) % (P : Int) = ((X % P : Nat) : Int) := by simp
              rw [this]; simp; omega
            have hQN : P ≤ N := by omega
            by_cases k0 : K = 0
            · subst k0
              have HN := Alg.hid (hI.out.next0 HC.out hdiv hLX.out)
              clear hdiv hLX
              go_wp2
              go_roundw
              case rel => exact ⟨X, P + 1, m, l, ks, rfl, by go_num, hXN, by omega, HN, hq, he, hd, hb⟩
              case measure => simp [intOf]; omega
            · have hk0 : (0 : Int) < (K : Int) := by omega
              have HN := Alg.hid (hI.out.next1 HC.out h1 hdiv (by omega) hLX.out)
              have s1 : m + 1 ≤ maxLen := by unfold maxLen; omega
              have s2 : (m + 1) * 8 ≤ 140737488355328 := by omega
              have Q1 : Hid (∀ u ∈ [Value.int IntKind.u64 (P : Int)], u.oneCell' = true) := by show ∀ u ∈ _, _; simp [Value.oneCell']
              have Q2 : Hid (∀ u ∈ [Value.int IntKind.i64 (K : Int)], u.oneCell' = true) := by show ∀ u ∈ _, _; simp [Value.oneCell']
              clear hdiv hLX
              go_wp2_with (first
                | (at_builtin; refine wpList_append_lies _ rfl _ _ 64 rfl w.heap.size 35 iq (.int .u64 0) 1 8 Tryd.underlying64 HI.out HQ0.out HQ1.out HQ2.out rfl Nat.one_pos _ m (l.map f64) rfl (hq.out.own.alloc _) ⟨wr.heap.size, 0, none⟩ 1 1 [.int .u64 (P : Int)] rfl rfl news_one Q1.out Nat.one_pos s1 s2 (Nat.le_trans hb.out.size (size_le_alloc _ _)) (wr.heap.size + 1) (World.size_alloc _ _) ?_; intro g1 c1 w1 hown1 hgrow1 hat1 hlt1; have hE1 := Alg.hid ((he.out.mono ((Below.refl wr.heap.size wr).alloc (Nat.le_refl _) _)).kept hgrow1 (ne_row hd.out)))
                | (at_builtin; refine wpList_append_lies _ rfl _ _ 65 rfl w.heap.size 3 ie (.int .i64 0) 1 8 Tryd.underlying65 HJ.out HE0.out HE1.out HE2.out rfl Nat.one_pos _ m (ks.map fint) rfl (hE1.out.own.alloc _) ⟨w1.heap.size, 0, none⟩ 1 1 [.int .i64 (K : Int)] rfl rfl news_one Q2.out Nat.one_pos s1 s2 (Nat.le_trans (Nat.le_trans hb.out.size (Nat.le_trans (size_le_alloc wr (.cells #[.int .u64 (P : Int)] 35)) hgrow1.size)) (size_le_alloc _ _)) (w1.heap.size + 1) (World.size_alloc _ _) ?_; intro g2 c2 w2 hown2 hgrow2 hat2 hlt2)
                | fail)
              obtain ⟨HQ', HE', HD', HB'⟩ := fac_step hq.out he.out hd.out hb.out hown1 hgrow1 hat1 hlt1 hown2 hgrow2 hat2
              have HQ2' := Alg.hid HQ'
              have HE2' := Alg.hid HE'
              have HD2' := Alg.hid HD'
              have HB2' := Alg.hid HB'
              clear hat1 hat2 HQ' HE' HD' HB' hown1 hown2 hgrow1 hgrow2 hE1
              go_roundw
              case rel => exact ⟨X, P + 1, m + 1, l ++ [P], ks ++ [K], rfl, by go_num, hXN, by omega, HN, HQ2', HE2', HD2', HB2'⟩
              case measure => simp [intOf]; omega
    · have hL0 := hI.out.L0
      obtain rfl : L = 1 := by omega
      go_wp2
      go_ret3
      exact RetF.mk hI.out.done hq.out he.out hb.out
end Go.Proofs.YtcdflpkbdabljaaDoor
end
section
open Alg Go Go.RowKit
namespace Alg
theorem hid_drewN {w1 wr : World} {n : Nat} (h : Hid (Below w1.heap.size w1 wr)) : Hid (Below w1.heap.size w1 (wr.drewN n)) := h.out.trans ((below_drewN wr n).mono h.out.size)
/-- the call hands back an element's order -/
def RetO (p a : Nat) (w : World) (e : Ending) (w' : World) : Prop :=
  ∃ n : Nat, e = .returned (.tuple #[.int .u64 (n : Int), .int .i64 0]) ∧ Ord p a n ∧ n ∣ p - 1 ∧ n < p ∧ Below w.heap.size w w'
theorem RetO.mk {p a n : Nat} {w w' : World} (h1 : Ord p a n) (h2 : n ∣ p - 1) (h3 : n < p) (h4 : Below w.heap.size w w') : RetO p a w (.returned (.tuple #[.int .u64 (n : Int), .int .i64 0])) w' := ⟨n, rfl, h1, h2, h3, h4⟩
end Alg
namespace Go.Proofs.YtcdflpkbdabljaaDoor
open Go.RowKit
theorem modp_Order0 (p : Nat) (w : World) :
    Calls Tryd.prog 32 #[.int .u32 p, .int .u32 0] w fun e w' => e = .returned (.tuple #[.int .u64 0, .int .i64 3]) ∧ w' = w := by
  go_enter Tryd.func32, Tryd.ntmps32
  go_wp2
  go_ret2
  exact ⟨rfl, rfl⟩
set_option maxRecDepth 100000 in
set_option maxHeartbeats 1000000 in
theorem modp_Order (p a : Nat) (w : World) (hpr : IsPr p) (hp : p < 4294967296) (ha0 : a ≠ 0) (ha : a < p) :
    Calls Tryd.prog 32 #[.int .u32 p, .int .u32 a] w (RetO p a w) := by
  have hp1 : 1 < p := hpr.1
  haveI hne : NeZero p := ⟨by omega⟩
  obtain ⟨q, hq⟩ : ∃ q, q = p - 1 := ⟨_, rfl⟩
  have e2 : (p : Int) - 1 = (q : Int) := by omega
  have e1 : (1 : Int) % (p : Int) = 1 := Int.emod_eq_of_lt (by omega) (by omega)
  have START : Hid (∀ l, OI p a l q 0) := fun l => by rw [hq]; exact OI.start hp1 (fermat_N hpr ha0 ha)
  have HQ := Alg.hid hq
  have hqp : q < p := by omega
  have hq0 : 0 < q := by omega
  have g0 : ((a : Int) == 0) = false := by simp; omega
  clear hq
  go_enter Tryd.func32, Tryd.ntmps32
  go_wp2_with fail
  refine (prime_Factor q _ hq0 (by omega)).mono ?_
  rintro e w1 ⟨b, m, cap, l, b', cap', ks, rfl, hf, hs, _, hb1, hbq, _⟩
  have hlen := hs.len
  have hcap := hs.cap
  have hle := hs.le
  have LEN := Alg.hid hlen
  have HF := Alg.hid hf
  have HS := Alg.hid hs
  have HB1 := Alg.hid hb1
  have HBQ := Alg.hid hbq
  have HPOS : Hid (∀ j, j < m → 0 < nth l j) := fun j hj => by
    have := ((hf.iff _).1 (nth_mem (l := l) (i := j) (by omega))).1.1; omega
  clear hlen hf hs hb1 hbq
  go_wp2
  go_loopw [6, 25] (fun n i wr => ∃ M I : Nat, n = .int .u64 M ∧ i = .int .i64 I ∧ I ≤ m ∧ M < p ∧ Hid (OI p a l M I) ∧ Hid (Below w1.heap.size w1 wr)) (fun _ i _ => m - (intOf i).toNat)
  case atStart => exact ⟨q, 0, rfl, rfl, Nat.zero_le _, hqp, START.out l, Below.refl _ _⟩
  case round =>
    clear START e2
    obtain ⟨M, I, rfl, rfl, hI, hM, ho, hb⟩ := hrel
    by_cases hIm : I < m
    · obtain ⟨Y, hY⟩ : ∃ Y, Y = nth l I := ⟨_, rfl⟩
      have hY2 : 0 < Y := by rw [hY]; exact HPOS.out I hIm
      have hYq : Y ≤ q := by
        have h1 := ((HF.out.iff Y).1 (by rw [hY]; exact nth_mem (by rw [LEN.out]; exact hIm))).2
        exact Nat.le_of_dvd hq0 h1
      obtain ⟨g, rfl, hg⟩ : ∃ g, b = some ⟨g, 0, none⟩ ∧ True := by
        rcases HBQ.out with h | ⟨g, h, _⟩
        · omega
        · exact ⟨g, h, trivial⟩
      have hc : ∀ wr, Below w1.heap.size w1 wr → wr.cell? ⟨g, I, none⟩ = some (.int .u64 (Y : Int)) := fun wr hb => by
        rcases (HS.out.mono hb).rd with h | ⟨g', off, h1, h2⟩
        · omega
        · simp only [Option.some.injEq, Addr.mk.injEq, and_true] at h1
          obtain ⟨rfl, rfl⟩ := h1
          have := h2 I hIm
          rw [Nat.zero_add, ← hY] at this
          exact this
      have hc0 := hc _ hb.out
      have HC := Alg.hid hc
      have hIm' : (I : Int) < (m : Int) := by omega
      have hYz : ((Y : Int) == 0) = false := by simp; omega
      have HYI := Alg.hid hY
      clear hc hg hY
      go_wp2
      clear hc0
      go_loopw [6] (fun n wr => ∃ M : Nat, n = .int .u64 M ∧ M < p ∧ Hid (OI p a l M I) ∧ Hid (Below w1.heap.size w1 wr)) (fun n _ => (intOf n).toNat)
      case atStart => exact ⟨M, rfl, hM, ho, hb⟩
      case round =>
        clear ho hb hM
        obtain ⟨M, rfl, hM, ho, hb⟩ := hrel
        by_cases hd : M % Y = 0
        · have hd1 : (M : Int) % (Y : Int) = 0 := by
            have : (M : Int) % (Y : Int) = ((M % Y : Nat) : Int) := by simp
            rw [this, hd]; rfl
          obtain ⟨Z, hZ⟩ : ∃ Z, Z = M / Y := ⟨_, rfl⟩
          have eZ : (M : Int) / (Y : Int) = (Z : Int) := by rw [hZ]; simp
          have hZp : Z < p := by rw [hZ]; exact Nat.lt_of_le_of_lt (Nat.div_le_self _ _) hM
          obtain ⟨V, hV⟩ : ∃ V, V = powM p a Z := ⟨_, rfl⟩
          have hVp : V < p := by rw [hV]; exact powM_lt _ _ _ (by omega)
          have HV : ∀ W, Calls Tryd.prog 28 #[.int .u32 p, .int .u32 a, .int .u64 Z] W fun e w' => e = .returned (.int .u32 (V : Int)) ∧ w' = W := fun W => by
            rw [hV]; exact modp_Pow p a Z W (by omega) hp (by omega) (by omega)
          have HHV := Alg.hid HV
          by_cases hv1 : V = 1
          · have hM0 := ho.out.M0
            have hY1 : 2 ≤ Y := by
              have h1 := ((HF.out.iff Y).1 (by rw [HYI.out]; exact nth_mem (by rw [LEN.out]; exact hIm))).1.1
              exact h1
            have hZM : Z < M := by rw [hZ]; exact Nat.div_lt_self hM0 (by omega)
            have HO : Hid (OI p a l Z I) := by
              rw [hZ]
              exact ho.out.cut (fun j hj => HPOS.out j (by omega)) hY2 hd (by rw [← hZ]; have := hV; rw [hv1] at this; exact this.symm)
            subst hv1
            clear hd hZ hV HV ho
            go_wp2
            go_quiet ((go_at_call 28; exact Calls.quiet_of_same (HHV.out _)))
            go_wp2
            go_roundw
            case rel => exact ⟨Z, rfl, hZp, HO, by first | exact hb | exact hid_drewN hb⟩
            case measure => simp [intOf]; omega
          · have HN : Hid (OI p a l M (I + 1)) := ho.out.next fun _ h => hv1 (by rw [← HYI.out, ← hZ] at h; rw [hV]; exact h)
            have hv1' : ((V : Int) == 1) = false := by simp; omega
            clear hd hZ hV HV ho hv1
            go_wp2
            go_quiet ((go_at_call 28; exact Calls.quiet_of_same (HHV.out _)))
            go_wp2
            go_roundw
            case rel => exact ⟨M, I + 1, rfl, by go_num, by omega, hM, HN, by first | exact hb | exact hid_drewN hb⟩
            case measure => simp [intOf]; omega
        · have hd1 : ((M : Int) % (Y : Int) == 0) = false := by
            have : (M : Int) % (Y : Int) = ((M % Y : Nat) : Int) := by simp
            rw [this]; simp; omega
          have HN : Hid (OI p a l M (I + 1)) := ho.out.next fun h _ => hd (by rw [← HYI.out] at h; exact Nat.mod_eq_zero_of_dvd h)
          clear hd ho
          go_wp2
          go_quiet (fail)
          go_wp2
          go_roundw
          case rel => exact ⟨M, I + 1, rfl, by go_num, by omega, hM, HN, by first | exact hb | exact hid_drewN hb⟩
          case measure => simp [intOf]; omega
    · have HO := Alg.hid (ho.out.done (ks := ks) (by rw [← HQ.out]; exact HF.out) (by rw [LEN.out]; omega))
      have HD := Alg.hid ho.out.Mp
      go_wp2
      go_ret2
      exact RetO.mk HO.out HD.out hM (HB1.out.trans (hb.out.mono HB1.out.size))
end Go.Proofs.YtcdflpkbdabljaaDoor
end
section
open Alg Go Go.RowKit
namespace Go.Proofs.YtcdflpkbdabljaaDoor
open Go.RowKit
theorem ref07_Order0 (p : Nat) (w : World) :
    Calls Tryd.prog 33 #[.int .u32 p, .int .u32 0] w fun e w' => e = .returned (.tuple #[.int .u64 0, .int .i64 3]) ∧ w' = w := by
  go_enter Tryd.func33, Tryd.ntmps33
  go_wp2
  go_ret2
  exact ⟨rfl, rfl⟩
set_option maxRecDepth 100000 in
set_option maxHeartbeats 1000000 in
theorem ref07_Order (p a : Nat) (w : World) (hpr : IsPr p) (hp : p < 4294967296) (ha0 : a ≠ 0) (ha : a < p) :
    Calls Tryd.prog 33 #[.int .u32 p, .int .u32 a] w (RetO p a w) := by
  have hp1 : 1 < p := hpr.1
  haveI hne : NeZero p := ⟨by omega⟩
  obtain ⟨q, hq⟩ : ∃ q, q = p - 1 := ⟨_, rfl⟩
  have e2 : (p : Int) - 1 = (q : Int) := by omega
  have e1 : (1 : Int) % (p : Int) = 1 := Int.emod_eq_of_lt (by omega) (by omega)
  have START : Hid (RI p a q q 2) := by rw [hq]; exact RI.start hp1 (fermat_N hpr ha0 ha)
  have hqp : q < p := by omega
  have g0 : ((a : Int) == 0) = false := by simp; omega
  clear hq
  go_enter Tryd.func33, Tryd.ntmps33
  go_wp2
  go_loopw [6, 7, 8] (fun n t d wr => ∃ M L D : Nat, n = .int .u64 M ∧ t = .int .u64 L ∧ d = .int .u64 D ∧ D ≤ p ∧ Hid (RI p a M L D) ∧ Hid (Below w.heap.size w wr)) (fun _ _ d _ => p + 1 - (intOf d).toNat)
  case atStart => exact ⟨q, q, 2, rfl, rfl, rfl, by omega, START, Below.refl _ _⟩
  case round =>
    clear START e2
    obtain ⟨M, L, D, rfl, rfl, rfl, hDp, hr, hb⟩ := hrel
    have hLp := hr.out.Llt hp1
    have hMp := hr.out.Mlt hp1
    by_cases h1 : 1 < L
    · have hDL := hr.out.DL h1
      have hD2 := hr.out.D2
      have hDD : (D : Int) * (D : Int) ≤ 18446744065119617025 ∧ 0 ≤ (D : Int) * (D : Int) := cMul_le (by omega) (by omega)
      obtain ⟨hDD1, hDD2⟩ := hDD
      by_cases hsq : L < D * D
      · have hsq' : (L : Int) < (D : Int) * (D : Int) := by
          have e : (D : Int) * (D : Int) = ((D * D : Nat) : Int) := by rw [Int.natCast_mul]
          omega
        have HB := Alg.hid (hr.out.big h1 hsq)
        clear hsq
        go_wp2
        go_loopw [6, 7] (fun n t wr => ∃ M L' : Nat, n = .int .u64 M ∧ t = .int .u64 L' ∧ L' ≤ L ∧ Hid (RI p a M L' L) ∧ Hid (Below w.heap.size w wr)) (fun _ t _ => (intOf t).toNat)
        case atStart => exact ⟨M, L, rfl, rfl, Nat.le_refl _, HB, hb⟩
        case round =>
          clear HB hb hr hMp
          obtain ⟨M, L', rfl, rfl, hLL, hr', hb⟩ := hrel
          have hMp := hr'.out.Mlt hp1
          by_cases hd : L' % L = 0
          · have hd1 : (L' : Int) % (L : Int) = 0 := by
              have : (L' : Int) % (L : Int) = ((L' % L : Nat) : Int) := by simp
              rw [this, hd]; rfl
            obtain ⟨X, hX⟩ : ∃ X, X = L' / L := ⟨_, rfl⟩
            have eX : (L' : Int) / (L : Int) = (X : Int) := by rw [hX]; simp
            obtain ⟨hX0, hX2⟩ := hr'.out.L1 hd
            rw [← hX] at hX0 hX2
            obtain ⟨Z, hZ⟩ : ∃ Z, Z = M / L := ⟨_, rfl⟩
            have eZ : (M : Int) / (L : Int) = (Z : Int) := by rw [hZ]; simp
            have hZp : Z < p := by rw [hZ]; exact Nat.lt_of_le_of_lt (Nat.div_le_self _ _) hMp
            obtain ⟨V, hV⟩ : ∃ V, V = powM p a Z := ⟨_, rfl⟩
            have hVp : V < p := by rw [hV]; exact powM_lt _ _ _ (by omega)
            have HV : ∀ W, Calls Tryd.prog 29 #[.int .u32 p, .int .u32 a, .int .u64 Z] W fun e w' => e = .returned (.int .u32 (V : Int)) ∧ w' = W := fun W => by
              rw [hV]; exact ref07_Pow p a Z W hp1 hp (by omega) (by omega)
            have HHV := Alg.hid HV
            by_cases hv1 : V = 1
            · have HO : Hid (RI p a Z X L) := by
                rw [hZ, hX]
                exact hr'.out.cut hd (by rw [← hZ]; have := hV; rw [hv1] at this; exact this.symm)
              subst hv1
              clear hd hZ hV HV hr' hX
              go_wp2
              go_quiet ((go_at_call 29; exact Calls.quiet_of_same (HHV.out _)))
              go_wp2
              go_roundw
              case rel => exact ⟨Z, X, rfl, rfl, by omega, HO, by first | exact hb | exact hid_drewN hb⟩
              case measure => simp [intOf]; omega
            · have HO : Hid (RI p a M X L) := by
                rw [hX]
                exact hr'.out.drop hd (fun h => hv1 (by rw [← hZ] at h; rw [hV]; exact h))
              have hv1' : ((V : Int) == 1) = false := by simp; omega
              clear hd hZ hV HV hr' hX hv1
              go_wp2
              go_quiet ((go_at_call 29; exact Calls.quiet_of_same (HHV.out _)))
              go_wp2
              go_roundw
              case rel => exact ⟨M, X, rfl, rfl, by omega, HO, by first | exact hb | exact hid_drewN hb⟩
              case measure => simp [intOf]; omega
          · have hd1 : ((L' : Int) % (L : Int) == 0) = false := by
              have : (L' : Int) % (L : Int) = ((L' % L : Nat) : Int) := by simp
              rw [this]; simp; omega
            have HN := Alg.hid (hr'.out.next hd)
            clear hd hr'
            go_wp2
            go_roundw
            case rel => exact ⟨M, L', L + 1, rfl, rfl, by go_num, by omega, HN, hb⟩
            case measure => simp [intOf]; omega
      · have hsq' : ¬ (L : Int) < (D : Int) * (D : Int) := by
          have e : (D : Int) * (D : Int) = ((D * D : Nat) : Int) := by rw [Int.natCast_mul]
          omega
        clear hsq
        go_wp2
        go_loopw [6, 7] (fun n t wr => ∃ M L' : Nat, n = .int .u64 M ∧ t = .int .u64 L' ∧ L' ≤ L ∧ Hid (RI p a M L' D) ∧ Hid (Below w.heap.size w wr)) (fun _ t _ => (intOf t).toNat)
        case atStart => exact ⟨M, L, rfl, rfl, Nat.le_refl _, hr, hb⟩
        case round =>
          clear hr hb hMp
          obtain ⟨M, L', rfl, rfl, hLL, hr', hb⟩ := hrel
          have hMp := hr'.out.Mlt hp1
          by_cases hd : L' % D = 0
          · have hd1 : (L' : Int) % (D : Int) = 0 := by
              have : (L' : Int) % (D : Int) = ((L' % D : Nat) : Int) := by simp
              rw [this, hd]; rfl
            obtain ⟨X, hX⟩ : ∃ X, X = L' / D := ⟨_, rfl⟩
            have eX : (L' : Int) / (D : Int) = (X : Int) := by rw [hX]; simp
            obtain ⟨hX0, hX2⟩ := hr'.out.L1 hd
            rw [← hX] at hX0 hX2
            obtain ⟨Z, hZ⟩ : ∃ Z, Z = M / D := ⟨_, rfl⟩
            have eZ : (M : Int) / (D : Int) = (Z : Int) := by rw [hZ]; simp
            have hZp : Z < p := by rw [hZ]; exact Nat.lt_of_le_of_lt (Nat.div_le_self _ _) hMp
            obtain ⟨V, hV⟩ : ∃ V, V = powM p a Z := ⟨_, rfl⟩
            have hVp : V < p := by rw [hV]; exact powM_lt _ _ _ (by omega)
            have HV : ∀ W, Calls Tryd.prog 29 #[.int .u32 p, .int .u32 a, .int .u64 Z] W fun e w' => e = .returned (.int .u32 (V : Int)) ∧ w' = W := fun W => by
              rw [hV]; exact ref07_Pow p a Z W hp1 hp (by omega) (by omega)
            have HHV := Alg.hid HV
            by_cases hv1 : V = 1
            · have HO : Hid (RI p a Z X D) := by
                rw [hZ, hX]
                exact hr'.out.cut hd (by rw [← hZ]; have := hV; rw [hv1] at this; exact this.symm)
              subst hv1
              clear hd hZ hV HV hr' hX
              go_wp2
              go_quiet ((go_at_call 29; exact Calls.quiet_of_same (HHV.out _)))
              go_wp2
              go_roundw
              case rel => exact ⟨Z, X, rfl, rfl, by omega, HO, by first | exact hb | exact hid_drewN hb⟩
              case measure => simp [intOf]; omega
            · have HO : Hid (RI p a M X D) := by
                rw [hX]
                exact hr'.out.drop hd (fun h => hv1 (by rw [← hZ] at h; rw [hV]; exact h))
              have hv1' : ((V : Int) == 1) = false := by simp; omega
              clear hd hZ hV HV hr' hX hv1
              go_wp2
              go_quiet ((go_at_call 29; exact Calls.quiet_of_same (HHV.out _)))
              go_wp2
              go_roundw
              case rel => exact ⟨M, X, rfl, rfl, by omega, HO, by first | exact hb | exact hid_drewN hb⟩
              case measure => simp [intOf]; omega
          · have hd1 : ((L' : Int) % (D : Int) == 0) = false := by
              have : (L' : Int) % (D : Int) = ((L' % D : Nat) : Int) := by simp
              rw [this]; simp; omega
            have HN := Alg.hid (hr'.out.next hd)
            clear hd hr'
            go_wp2
            go_roundw
            case rel => exact ⟨M, L', D + 1, rfl, rfl, by go_num, by omega, HN, hb⟩
            case measure => simp [intOf]; omega
    · have hL0 := hr.out.L0
      obtain rfl : L = 1 := by omega
      have HO := Alg.hid hr.out.done
      have HD := Alg.hid hr.out.Mp
      go_wp2
      go_ret2
      exact RetO.mk HO.out HD.out hMp hb.out
end Go.Proofs.YtcdflpkbdabljaaDoor
end
