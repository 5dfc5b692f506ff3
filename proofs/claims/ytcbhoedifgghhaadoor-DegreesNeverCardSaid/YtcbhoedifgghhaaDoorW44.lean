/- ppoly.Cmp and the reference's. -/
import Derived.Test.YtcbhoedifgghhaaDoorW28
open Alg Go Go.RowKit Go.Shelf
namespace Alg
/-- which of two numbers is less -/
def cmpN (x y : Nat) : Int := if x < y then -1 else if y < x then 1 else 0
/-- the first k coefficients, compared from the top -/
def cmpA (f g : List Nat) : Nat → Int
  | 0 => 0
  | k + 1 => if nth f k = nth g k then cmpA f g k else cmpN (nth f k) (nth g k)
def cmpL (f g : List Nat) : Int := if f.length = g.length then cmpA f g f.length else cmpN f.length g.length
theorem cmpA_skip (f g : List Nat) (n : Nat) : ∀ k, k ≤ n → (∀ j, j < k → nth f (n - 1 - j) = nth g (n - 1 - j)) → cmpA f g n = cmpA f g (n - k)
  | 0, _, _ => rfl
  | k + 1, h, hj => by
    rw [cmpA_skip f g n k (by omega) (fun j h2 => hj j (by omega))]
    have e : n - k = (n - (k + 1)) + 1 := by omega
    rw [e]
    unfold cmpA
    rw [if_pos (by have := hj k (by omega); rwa [show n - 1 - k = n - (k + 1) by omega] at this)]
    cases n - (k + 1) <;> rfl
theorem cmpN_int (x y : Nat) : Lib.compareInt (x : Int) (y : Int) = cmpN x y := by
  unfold Lib.compareInt cmpN
  by_cases h : x < y
  · rw [if_pos h, if_pos (by omega)]
  · rw [if_neg h, if_neg (by omega)]
    by_cases h2 : y < x
    · rw [if_pos h2, if_pos (by omega)]
    · rw [if_neg h2, if_neg (by omega)]
theorem back_all {f g : List Nat} {n k : Nat} {pre : List (BW n)} (h : pre.map Subtype.val = backL f n k) (hk : k ≤ n) (ha : ∀ y ∈ pre, y.1.2 = nth g y.1.1) : cmpA f g n = cmpA f g (n - k) := by
  refine cmpA_skip f g n k hk fun j hj => ?_
  have h1 : (n - 1 - j, nth f (n - 1 - j)) ∈ pre.map Subtype.val := by
    rw [h, backL]
    exact List.mem_map.2 ⟨j, List.mem_range.2 hj, rfl⟩
  obtain ⟨y, hy, e⟩ := List.mem_map.1 h1
  have := ha y hy
  rw [e] at this
  exact this
theorem back_last {f g : List Nat} {n k : Nat} {pre : List (BW n)} {x : BW n} (h : (pre ++ [x]).map Subtype.val = backL f n k) (hk : k ≤ n) (ha : ∀ y ∈ pre, y.1.2 = nth g y.1.1) (hx : x.1.2 ≠ nth g x.1.1) : cmpA f g n = cmpN x.1.2 (nth g x.1.1) := by
  have hl : pre.length + 1 = k := by rw [← backL_len f n k, ← h]; simp
  obtain ⟨m, rfl⟩ : ∃ m, k = m + 1 := ⟨pre.length, hl.symm⟩
  rw [backL_succ, List.map_append, List.map_cons, List.map_nil] at h
  have h1 := List.append_inj' h rfl
  have h2 := back_all h1.1 (by omega) ha
  have h3 : x.1 = (n - 1 - m, nth f (n - 1 - m)) := by simpa using h1.2
  rw [h2, show n - m = (n - 1 - m) + 1 by omega]
  unfold cmpA
  rw [h3] at hx ⊢
  rw [if_neg hx]
end Alg
namespace Go.Proofs.YtcbhoedifgghhaaDoor
open Go.RowKit Go.Shelf
theorem cmp_isNaN_u32 (x : Nat) (w : World) :
    Calls Tryd.prog 104 #[.int .u32 x] w fun e w' => e = .returned (.bool false) ∧ w' = w := by
  go_enter Tryd.func104, Tryd.ntmps104
  go_wp2
  go_ret
  exact ⟨rfl, rfl⟩
theorem cmp_Compare_u32 (x y : Nat) (w : World) :
    Calls Tryd.prog 87 #[.int .u32 x, .int .u32 y] w fun e w' => e = .returned (.int .i64 (cmpN x y)) ∧ w' = w := by
  by_cases h : x < y
  · have h1 : (x : Int) < (y : Int) := by omega
    have HE : Hid (cmpN x y = -1) := by show _ = _; unfold cmpN; rw [if_pos h]
    clear h
    go_enter Tryd.func87, Tryd.ntmps87
    go_wp2_with (go_at_call 104; refine (cmp_isNaN_u32 _ _).mono ?_; rintro e w' ⟨rfl, rfl⟩)
    go_ret
    exact ⟨by rw [HE.out]; rfl, rfl⟩
  · have h1 : ¬ (x : Int) < (y : Int) := by omega
    by_cases h2 : y < x
    · have h3 : (y : Int) < (x : Int) := by omega
      have HE : Hid (cmpN x y = 1) := by show _ = _; unfold cmpN; rw [if_neg h, if_pos h2]
      clear h h2
      go_enter Tryd.func87, Tryd.ntmps87
      go_wp2_with (go_at_call 104; refine (cmp_isNaN_u32 _ _).mono ?_; rintro e w' ⟨rfl, rfl⟩)
      go_ret
      exact ⟨by rw [HE.out]; rfl, rfl⟩
    · have h3 : ¬ (y : Int) < (x : Int) := by omega
      have HE : Hid (cmpN x y = 0) := by show _ = _; unfold cmpN; rw [if_neg h, if_neg h2]
      clear h h2
      go_enter Tryd.func87, Tryd.ntmps87
      go_wp2_with (go_at_call 104; refine (cmp_isNaN_u32 _ _).mono ?_; rintro e w' ⟨rfl, rfl⟩)
      go_ret
      exact ⟨by rw [HE.out]; rfl, rfl⟩
set_option maxRecDepth 100000 in
set_option maxHeartbeats 1000000 in
theorem ref_Cmp (p : Nat) (fa : Option Addr) (fn fcap : Nat) (fl : List Nat) (q : Nat) (ga : Option Addr) (gn gcap : Nat) (gl : List Nat) (w : World) (hf : Sl w fa fn fcap fl) (hg : Sl w ga gn gcap gl) (hfn : fn ≤ 1099511627776) (hgn : gn ≤ 1099511627776) :
    Calls Tryd.prog 52 #[.agg #[.int .u32 (p : Int), .slice fa fn fcap], .agg #[.int .u32 (q : Int), .slice ga gn gcap]] w fun e w' => e = .returned (.int .i64 (cmpL fl gl)) ∧ Below w.heap.size w w' := by
  have hbx := boxes2 w #[.int .u32 (p : Int), .slice fa fn fcap] #[.int .u32 (q : Int), .slice ga gn gcap] 25 25
  have lf := hf.len
  have lg := hg.len
  by_cases hne : fn = gn
  · subst hne
    have HE : Hid (cmpL fl gl = cmpA fl gl fn) := by show _ = _; unfold cmpL; rw [if_pos (by omega), lf]
    rw [HE.out]
    have h0 : ((fn : Int) != (fn : Int)) = false := by simp
    clear lf lg HE
    go_enter Tryd.func52, Tryd.ntmps52
    go_wp2
    clear h0
    go_loopw [5] (fun v wr => ∃ k : Nat, v = .int .i64 ((k : Int) - 1) ∧ k ≤ fn ∧ Hid (cmpA fl gl fn = cmpA fl gl k) ∧ Boxes w wr [#[.int .u32 (p : Int), .slice fa fn fcap], #[.int .u32 (q : Int), .slice ga fn gcap]]) (fun v _ => (intOf v + 1).toNat)
    case atStart => exact ⟨fn, rfl, Nat.le_refl _, rfl, hbx⟩
    case round =>
      clear hbx
      obtain ⟨k, rfl, hk, hE, hB⟩ := hrel
      by_cases k0 : k = 0
      · subst k0
        go_wp2
        go_ret
        exact ⟨by rw [hE.out]; rfl, hB.below⟩
      · rcases hf.rd with h | ⟨b, off, rfl, hcf⟩
        · omega
        rcases hg.rd with h | ⟨b2, off2, rfl, hcg⟩
        · omega
        obtain ⟨m, rfl⟩ : ∃ m, k = m + 1 := ⟨k - 1, by omega⟩
        have c1 : wr.cell? ⟨b, off + m, none⟩ = some (.int .u32 (nth fl m : Nat)) := (hB.below.cell (p := ⟨b, off + m, none⟩) (cell_lt (hcf m (by omega)))).trans (hcf m (by omega))
        have c2 : wr.cell? ⟨b2, off2 + m, none⟩ = some (.int .u32 (nth gl m : Nat)) := (hB.below.cell (p := ⟨b2, off2 + m, none⟩) (cell_lt (hcg m (by omega)))).trans (hcg m (by omega))
        have d1 : wr.cell? ⟨w.heap.size, 1, none⟩ = some (.slice (some ⟨b, off, none⟩) fn fcap) := hB.cell' 0 1 _ _ rfl rfl
        have d3 : wr.cell? ⟨w.heap.size + 1, 1, none⟩ = some (.slice (some ⟨b2, off2, none⟩) fn gcap) := hB.cell' 1 1 _ _ rfl rfl
        have em : ((m + 1 : Nat) : Int) - 1 = (m : Int) := by omega
        rw [em]
        have s1 : (0 : Int) ≤ (m : Int) := by omega
        have s2 : (m : Int) < (fn : Int) := by omega
        have HB := Alg.hid hB
        clear hcf hcg hB
        by_cases h1 : nth fl m < nth gl m
        · have g1 : (nth fl m : Int) < (nth gl m : Int) := by omega
          have HV : Hid (cmpA fl gl fn = -1) := by
            show _ = _
            rw [hE.out]; unfold cmpA; rw [if_neg (by omega)]; unfold cmpN; rw [if_pos h1]
          clear h1
          go_wp2
          go_quiet (fail)
          go_wp2
          go_ret
          exact ⟨by rw [HV.out]; rfl, (HB.out.drewN _).below⟩
        · have g1 : ¬ (nth fl m : Int) < (nth gl m : Int) := by omega
          by_cases h2 : nth gl m < nth fl m
          · have g2 : (nth gl m : Int) < (nth fl m : Int) := by omega
            have HV : Hid (cmpA fl gl fn = 1) := by
              show _ = _
              rw [hE.out]; unfold cmpA; rw [if_neg (by omega)]; unfold cmpN; rw [if_neg h1, if_pos h2]
            clear h1 h2
            go_wp2
            go_quiet (fail)
            go_wp2
            go_quiet (fail)
            go_wp2
            go_ret
            exact ⟨by rw [HV.out]; rfl, ((HB.out.drewN _).drewN _).below⟩
          · have g2 : ¬ (nth gl m : Int) < (nth fl m : Int) := by omega
            have HV : Hid (cmpA fl gl fn = cmpA fl gl m) := by
              show _ = _
              rw [hE.out]
              show (if nth fl m = nth gl m then cmpA fl gl m else cmpN (nth fl m) (nth gl m)) = _
              rw [if_pos (by omega)]
            clear h1 h2
            go_wp2
            go_quiet (fail)
            go_wp2
            go_quiet (fail)
            go_wp2
            go_roundw
            case rel => exact ⟨m, rfl, by omega, HV, HB.out.drewN _⟩
            case measure => simp [intOf]
  · have hq : ((fn : Int) != (gn : Int)) = true := by simp; omega
    by_cases h1 : fn < gn
    · have g1 : (fn : Int) < (gn : Int) := by omega
      have HE : Hid (cmpL fl gl = -1) := by show _ = _; unfold cmpL cmpN; rw [lf, lg, if_neg hne, if_pos h1]
      rw [HE.out]
      clear hne h1 lf lg
      go_enter Tryd.func52, Tryd.ntmps52
      go_wp2
      go_ret
      exact ⟨rfl, hbx.below⟩
    · have g1 : ¬ (fn : Int) < (gn : Int) := by omega
      have HE : Hid (cmpL fl gl = 1) := by show _ = _; unfold cmpL cmpN; rw [lf, lg, if_neg hne, if_neg h1, if_pos (by omega)]
      rw [HE.out]
      clear hne h1 lf lg
      go_enter Tryd.func52, Tryd.ntmps52
      go_wp2
      go_ret
      exact ⟨rfl, hbx.below⟩
attribute [local go_sem] Oper.semAt_some
set_option maxRecDepth 100000 in
set_option maxHeartbeats 4000000 in
theorem ppoly_Cmp_eq (p : Nat) (fa : Option Addr) (fn fcap : Nat) (fl : List Nat) (q : Nat) (ga : Option Addr) (gcap : Nat) (gl : List Nat) (w : World) (hf : Sl w fa fn fcap fl) (hg : Sl w ga fn gcap gl) (hfn : fn ≤ 1099511627776) :
    Calls Tryd.prog 51 #[.agg #[.int .u32 (p : Int), .slice fa fn fcap], .agg #[.int .u32 (q : Int), .slice ga fn gcap]] w fun e w' => e = .returned (.int .i64 (cmpA fl gl fn)) ∧ Below w.heap.size w w' := by
  refine (callsIn_wide (n := 5)).1 ?_
  refine callsIn_of_wp_marks Tryd.func51 rfl trivial ?_ rfl
  simp only [Tryd.ntmps51, List.size_toArray, List.length_cons, List.length_nil, Nat.reduceAdd, Nat.reduceSub, Array.replicate_succ, Array.replicate_zero, List.push_toArray, List.append_toArray, List.nil_append, List.cons_append]
  have hbx := boxes3 w #[.int .u32 (p : Int), .slice fa fn fcap] #[.int .u32 (q : Int), .slice ga fn gcap] #[.int .i64 0] 25 25 3
  have h0 : ((fn : Int) != (fn : Int)) = false := by simp
  gi_wp2
  refine ⟨trivial, ?_⟩
  generalize hW0 : (((w.alloc (.cells #[.int .u32 (p : Int), .slice fa fn fcap] 25)).alloc (.cells #[.int .u32 (q : Int), .slice ga fn gcap] 25)).alloc (.cells #[.int .i64 0] 3)) = W0 at hbx ⊢
  clear hW0 h0
  refine (backward_in Fence.wide 4 trivial rfl fa fn fcap W0).mono ?_
  rintro e w' ⟨rfl, rfl⟩
  have hsz : w.heap.size + 3 ≤ W0.heap.size := hbx.size
  have hb2 := hbx.alloc_any (.cells #[.slice fa fn fcap] 23)
  have hbS := Box.new W0 #[.slice fa fn fcap] 23
  have hout := hb2.box (j := 2) rfl
  have c1 := hb2.cell' 1 1 _ _ rfl rfl
  have hf2 := (hf.mono hb2.below)
  generalize hW1 : (W0.alloc (.cells #[.slice fa fn fcap] 23)) = W1 at hb2 hbS hout c1 hf2 ⊢
  have hs1 : W1.heap.size = W0.heap.size + 1 := by rw [← hW1, World.size_alloc]
  clear hW1
  gi_wp2
  have hmx : Tryd.prog.follows .mixedOrders = true := by kernel_rfl
  refine wpIn_rangeFunc_ownG rfl (by omega) (gf := 101) (lb := #[.pointer (some ⟨W0.heap.size, 0, none⟩)]) rfl trivial (enters_of Tryd.func101 (by kernel_rfl) rfl)
    (back_stops Fence.wide 4 trivial rfl (by omega) W0.heap.size w.heap.size fa fn fcap fl hfn W1 w (by omega) (by omega) (hbS.cell 0 _ rfl) hf (Nat.le_refl _) hf2) KB.t (KB.b (by omega)) (Below.refl _ _) (fun _ => rfl)
    (fun pre W => ((∀ y ∈ pre, y.1.2 = nth gl y.1.1) ∧ W.cell? ⟨w.heap.size + 1, 1, none⟩ = some (.slice ga fn gcap) ∧ W.cell? ⟨w.heap.size + 1 + 1, 0, none⟩ = some (.int .i64 0) ∧ W.frozen? ⟨w.heap.size + 1 + 1, 0, none⟩ = false) ∧ Below w.heap.size w W)
    (fun c pre W => (c = .ret ∧ (∃ pre' x, pre = pre' ++ [x] ∧ (∀ y ∈ pre', y.1.2 = nth gl y.1.1) ∧ x.1.2 ≠ nth gl x.1.1 ∧ W.cell? ⟨w.heap.size + 1 + 1, 0, none⟩ = some (.int .i64 (cmpN x.1.2 (nth gl x.1.1))))) ∧ Below w.heap.size w W)
    (OwnFrom.and (Own.from (fun s A B row hs hg hr => ⟨hs.1, cell_kept hs.2.1 hg hr, cell_kept hs.2.2.1 hg hr, (frozen_kept hs.2.2.1 hg hr).trans hs.2.2.2⟩) _) (ownFrom_below (Nat.le_refl _) (by omega)))
    (fun c => OwnFrom.and (Own.from (fun s A B row hs hg hr => by
      obtain ⟨rfl, pre', x, rfl, h1, h2, h3⟩ := hs
      exact ⟨rfl, pre', x, rfl, h1, h2, cell_kept h3 hg hr⟩) _) (ownFrom_below (Nat.le_refl _) (by omega)))
    ⟨⟨by simp, c1, hout.cell 0 _ rfl, hout.frozen 0⟩, hb2.below⟩
    (fun x => { tmps := #[.agg #[.int .u32 (p : Int), .slice fa fn fcap], .agg #[.int .u32 (q : Int), .slice ga fn gcap], .pointer (some ⟨w.heap.size, 0, none⟩), .pointer (some ⟨w.heap.size + 1, 0, none⟩), .pointer (some ⟨w.heap.size + 1 + 1, 0, none⟩), .int .i64 (x.1.1 : Nat), .int .u32 (x.1.2 : Nat), .pointer (some ⟨w.heap.size, 1, none⟩), .slice fa fn fcap, .int .i64 fn, .pointer (some ⟨w.heap.size + 1, 1, none⟩), .slice ga fn gcap, .int .i64 fn, .bool false, undef, undef, undef, undef, undef, undef, undef, .pointer (some ⟨w.heap.size, 1, none⟩), .slice fa fn fcap, .func (.func 101) #[] #[.pointer (some ⟨W0.heap.size, 0, none⟩)], .int .i64 (x.1.1 : Nat), .int .u32 (x.1.2 : Nat), undef, undef, undef, undef, undef, undef, undef, undef, undef, undef, undef, undef, undef, undef], defers := [] }) ?assign ?body ?done ?stop
  case assign =>
    intro l x W K hK
    gi_wp2
    exact hK
  case body =>
    rintro l pre x W ⟨⟨hp, hcg, ho, hfz⟩, hB⟩ _
    have hxn := x.2.1
    have hx := x.2.2
    rcases hg.rd with h0 | ⟨b2, off2, rfl, hg2⟩
    · omega
    have c2 : W.cell? ⟨b2, off2 + x.1.1, none⟩ = some (.int .u32 (nth gl x.1.1 : Nat)) := (hB.cell (p := ⟨b2, off2 + x.1.1, none⟩) (cell_lt (hg2 _ hxn))).trans (hg2 _ hxn)
    have hlt := hg.lt x.1.1
    have HP := Alg.hid hp
    have s1 : (0 : Int) ≤ (x.1.1 : Int) := by omega
    have s2 : (x.1.1 : Int) < (fn : Int) := by omega
    clear hg2 hp
    by_cases heq : x.1.2 = nth gl x.1.1
    · have hq : ((x.1.2 : Int) != (nth gl x.1.1 : Int)) = false := by rw [heq]; simp
      have HQ := Alg.hid heq
      clear heq
      gi_wp2
      refine ⟨(KeepsOthers.refl _).from _, ⟨Below.refl _ _, fun _ _ h => h⟩, ⟨fun y hy => ?_, hcg, ho, hfz⟩, hB⟩
      rcases List.mem_append.1 hy with h | h
      · exact HP.out y h
      · rw [List.mem_singleton.1 h]; exact HQ.out
    · have hq : ((x.1.2 : Int) != (nth gl x.1.1 : Int)) = true := by simp; omega
      have HQ := Alg.hid heq
      clear heq
      gi_wp2
      refine ⟨trivial, ?_⟩
      refine (CallsIn.inRound l (callsIn_wide.2 (cmp_Compare_u32 x.1.2 (nth gl x.1.1) _))).mono ?_
      rintro e w' ⟨rfl, rfl⟩
      gi_wp2
      refine ⟨(KeepsOthers.setCell _ _ _).from _, ⟨rfl, pre, x, rfl, HP.out, HQ.out, setCell_cell _ _ _ _ _ ho⟩, hB.setCell (p := ⟨w.heap.size + 1 + 1, 0, none⟩) (by show w.heap.size ≤ w.heap.size + 1 + 1; omega) _⟩
  case done =>
    rintro D ys W hD hys ⟨⟨hp, _, ho, hfz⟩, hB⟩ hK
    have hv := back_all hys (Nat.le_refl _) hp
    rw [Nat.sub_self] at hv
    have HV : Hid (cmpA fl gl fn = 0) := hv
    clear hv hp
    gi_wp2
    have hK' := (KeepsOthers.setCell W ⟨w.heap.size + 1 + 1, 0, none⟩ (.int .i64 0)).same D _ hK rfl
    refine ⟨by simp, .inl ⟨_, _, rfl, run_takeDeferred hK', ?_⟩⟩
    have hc5 := cell_kept (setCell_cell W _ _ _ (.int .i64 0) ho) (grownBy_putObj' _ D (.deferred none)) (fun r e => by cases e; exact ⟨_, hK', rfl⟩)
    have hB' := hB.setCell (p := ⟨w.heap.size + 1 + 1, 0, none⟩) (by show w.heap.size ≤ w.heap.size + 1 + 1; omega) (.int .i64 0)
    refine ⟨.int .i64 0, ?_, by rw [HV.out], hB'.trans (belowK_b (w := w) (Nat.le_refl _) _ D _ _ (by omega) hK' rfl rfl)⟩
    simp [results, Tryd.f51, go_sem, hc5]
  case stop =>
    rintro D c pre W hD ⟨k, hk, hys⟩ ⟨⟨rfl, pre', x, rfl, h1, h2, ho⟩, hB⟩ hK
    have hv := Alg.hid (back_last hys hk h1 h2)
    gi_wp2
    refine ⟨by simp, .inl ⟨_, _, rfl, run_takeDeferred hK, ?_⟩⟩
    have hc5 := cell_kept ho (grownBy_putObj' _ D (.deferred none)) (fun r e => by cases e; exact ⟨_, hK, rfl⟩)
    refine ⟨.int .i64 (cmpN x.1.2 (nth gl x.1.1)), ?_, by rw [hv.out], hB.trans (belowK_b (w := w) (Nat.le_refl _) _ D _ _ (by omega) hK rfl rfl)⟩
    simp [results, Tryd.f51, go_sem, hc5]
set_option maxRecDepth 100000 in
set_option maxHeartbeats 1000000 in
theorem ppoly_Cmp_ne (p : Nat) (fa : Option Addr) (fn fcap : Nat) (q : Nat) (ga : Option Addr) (gn gcap : Nat) (w : World) (hne : fn ≠ gn) :
    Calls Tryd.prog 51 #[.agg #[.int .u32 (p : Int), .slice fa fn fcap], .agg #[.int .u32 (q : Int), .slice ga gn gcap]] w fun e w' => e = .returned (.int .i64 (cmpN fn gn)) ∧ Below w.heap.size w w' := by
  refine (callsIn_wide (n := 5)).1 ?_
  refine callsIn_of_wp_marks Tryd.func51 rfl trivial ?_ rfl
  simp only [Tryd.ntmps51, List.size_toArray, List.length_cons, List.length_nil, Nat.reduceAdd, Nat.reduceSub, Array.replicate_succ, Array.replicate_zero, List.push_toArray, List.append_toArray, List.nil_append, List.cons_append]
  have hbx := boxes3 w #[.int .u32 (p : Int), .slice fa fn fcap] #[.int .u32 (q : Int), .slice ga gn gcap] #[.int .i64 0] 25 25 3
  have h0 : ((fn : Int) != (gn : Int)) = true := by simp; omega
  clear hne
  gi_wp2
  refine ⟨trivial, ?_⟩
  generalize hW0 : (((w.alloc (.cells #[.int .u32 (p : Int), .slice fa fn fcap] 25)).alloc (.cells #[.int .u32 (q : Int), .slice ga gn gcap] 25)).alloc (.cells #[.int .i64 0] 3)) = W0 at hbx ⊢
  clear hW0 h0
  refine (callsIn_wide.2 (Tryd.cmp_Compare_int fn gn _)).mono ?_
  rintro e w' ⟨rfl, rfl⟩
  have hout := hbx.box (j := 2) rfl
  have ho := hout.cell 0 (.int .i64 0) rfl
  have hz := hout.frozen 0
  rw [cmpN_int]
  gi_wp2
  have hc5 := setCell_cell _ _ _ (.int .i64 (cmpN fn gn)) _ ho
  have hB' := hbx.below.setCell (p := ⟨w.heap.size + 1 + 1, 0, none⟩) (by show w.heap.size ≤ w.heap.size + 1 + 1; omega) (.int .i64 (cmpN fn gn))
  refine ⟨.int .i64 (cmpN fn gn), ?_, rfl, hB'⟩
  simp [results, Tryd.f51, go_sem, hc5]
theorem ppoly_Cmp (p : Nat) (fa : Option Addr) (fn fcap : Nat) (fl : List Nat) (q : Nat) (ga : Option Addr) (gn gcap : Nat) (gl : List Nat) (w : World) (hf : Sl w fa fn fcap fl) (hg : Sl w ga gn gcap gl) (hfn : fn ≤ 1099511627776) :
    Calls Tryd.prog 51 #[.agg #[.int .u32 (p : Int), .slice fa fn fcap], .agg #[.int .u32 (q : Int), .slice ga gn gcap]] w fun e w' => e = .returned (.int .i64 (cmpL fl gl)) ∧ Below w.heap.size w w' := by
  by_cases h : fn = gn
  · subst h
    have e : cmpL fl gl = cmpA fl gl fn := by unfold cmpL; rw [hf.len, hg.len, if_pos rfl]
    rw [e]
    exact ppoly_Cmp_eq p fa fn fcap fl q ga gcap gl w hf hg hfn
  · have e : cmpL fl gl = cmpN fn gn := by unfold cmpL; rw [hf.len, hg.len, if_neg h]
    rw [e]
    exact ppoly_Cmp_ne p fa fn fcap q ga gn gcap w h
end Go.Proofs.YtcbhoedifgghhaaDoor
