/- slices.Backward, and ppoly.Value, which ranges over it. -/
import Derived.RangeFuncNested
import Derived.RangeFuncBound
import Derived.RangeFuncCalls
import Derived.RangeFuncLeaves
import Derived.Shelf.Abstract
import Derived.Shelf.RegionOpen
import Derived.WalkKit
import Derived.OwnWalkIn
import Derived.TacticsInMore
import Derived.LoopNIn
import Derived.LoopIn
import Derived.Test.YtbnjmeeaaieicaaDoorA9
import Derived.Test.YtbnjmeeaaieicaaDoorW15
import Derived.Test.YtbnjmeeaaieicaaDoorHH
open Alg Go Go.RowKit Go.Shelf
namespace Alg
/-- an index and a coefficient -/
abbrev BW (n : Nat) := { x : Nat × Nat // x.1 < n ∧ x.2 < 4294967296 }
/-- the first k, from the top -/
def backL (l : List Nat) (n k : Nat) : List (Nat × Nat) := (List.range k).map fun j => (n - 1 - j, nth l (n - 1 - j))
theorem backL_succ (l : List Nat) (n k : Nat) : backL l n (k + 1) = backL l n k ++ [(n - 1 - k, nth l (n - 1 - k))] := by simp [backL, List.range_succ]
theorem backL_len (l : List Nat) (n k : Nat) : (backL l n k).length = k := by simp [backL]
/-- the value at a place, from the top -/
def valB (p a : Nat) (pre : List (Nat × Nat)) : Nat := pre.foldl (fun s x => addM p (mulM p s a) x.2) 0
theorem valB_snoc (p a : Nat) (pre : List (Nat × Nat)) (x : Nat × Nat) : valB p a (pre ++ [x]) = addM p (mulM p (valB p a pre) a) x.2 := by simp [valB]
theorem valB_lt (p a : Nat) (pre : List (Nat × Nat)) (hp : 0 < p) : valB p a pre < p := by
  rcases List.eq_nil_or_concat pre with h | ⟨L, b, h⟩
  · subst h; exact hp
  · rw [h, List.concat_eq_append, valB_snoc]; exact addM_lt _ _ _ hp
/-- below n₀ nothing has turned, and block B's cells stand -/
def KB (n₀ B : Nat) (W W' : World) : Prop := Below n₀ W W' ∧ ∀ i v, W.cell? ⟨B, i, none⟩ = some v → W'.cell? ⟨B, i, none⟩ = some v
theorem KB.t {n₀ B : Nat} {W W1 W2 : World} (h : KB n₀ B W W1) (k : KB n₀ B W1 W2) : KB n₀ B W W2 := ⟨h.1.trans k.1, fun i v hv => k.2 i v (h.2 i v hv)⟩
theorem KB.b {n₀ B : Nat} {w : World} (hn : n₀ ≤ w.heap.size) (W : World) (l : Nat) (o o' : Obj) (hl : w.heap.size ≤ l) (h : W.heap[l]? = some o) (hc : o.isCells = false) (hw : o.isWalk = false) : KB n₀ B W (W.putObj l o') :=
  ⟨belowK_b hn W l o o' hl h hc hw, fun i v hv => cell_kept hv (grownBy_putObj' W l o') (fun r e => by cases e; exact ⟨o, h, hc⟩)⟩
def valL (p : Nat) (l : List Nat) (a : Nat) : Nat := valB p a (backL l l.length l.length)
end Alg
namespace Go.Proofs.YtbnjmeeaaieicaaDoor
open Go.RowKit Go.Shelf
attribute [local go_sem] Oper.semAt_some
set_option maxHeartbeats 1000000 in
theorem backward_in (F : Fence) (n : Nat) (h5 : F.fn 87) (hro : F.round = none) (a : Option Addr) (len cap : Nat) (w : World) :
    CallsIn F n Tryd.prog 87 #[.slice a len cap] w fun e w' => e = .returned (.func (.func 118) #[] #[.pointer (some ⟨w.heap.size, 0, none⟩)]) ∧ w' = w.alloc (.cells #[.slice a len cap] 23) := by
  refine callsIn_of_wp Tryd.func87 rfl h5 ?_ hro
  simp only [Tryd.ntmps87, List.size_toArray, List.length_cons, List.length_nil, Nat.reduceAdd, Nat.reduceSub, Array.replicate_succ, Array.replicate_zero, List.push_toArray, List.append_toArray, List.nil_append, List.cons_append]
  gi_wp2
  go_ret
  exact ⟨rfl, rfl⟩
set_option maxRecDepth 100000 in
set_option maxHeartbeats 2000000 in
theorem back1_in (F : Fence) (n : Nat) (h7 : F.fn 118) (hro : F.round = none) (hn : 1 ≤ n) (l Bs n₀ b off len cap : Nat) (zs : List Nat) (hlt : ∀ i, nth zs i < 4294967296) (hreach : len ≤ 1099511627776) (hb : b < n₀) (J Jx : List (BW len) → World → Prop)
    (hY : ∀ pre x W, J pre W → pre.length < len → YieldAt F (n - 1) Tryd.prog l #[.int .i64 (x.1.1 : Nat), .int .u32 (x.1.2 : Nat)] W fun e W' =>
      (e = .returned (.bool true) ∧ J (pre ++ [x]) W' ∧ KB n₀ Bs W W') ∨ (e = .returned (.bool false) ∧ Jx (pre ++ [x]) W'))
    (W : World) (hBs : W.cell? ⟨Bs, 0, none⟩ = some (.slice (some ⟨b, off, none⟩) len cap)) (hc : ∀ j, j < len → W.cell? ⟨b, off + j, none⟩ = some (.int .u32 (nth zs j : Nat))) (h0 : J [] W) :
    CallsIn F n Tryd.prog 118 #[.func (.yield l) #[] #[], .pointer (some ⟨Bs, 0, none⟩)] W fun e W' => (∃ v, e = .returned v) ∧
      ((∃ ys, ys.map Subtype.val = backL zs len len ∧ J ys W') ∨ (∃ pre, (∃ k, k ≤ len ∧ pre.map Subtype.val = backL zs len k) ∧ Jx pre W')) := by
  refine callsIn_of_wp Tryd.func118 rfl h7 ?_ hro
  simp only [Tryd.ntmps118, List.size_toArray, List.length_cons, List.length_nil, Nat.reduceAdd, Nat.reduceSub, Array.replicate_succ, Array.replicate_zero, List.push_toArray, List.append_toArray, List.nil_append, List.cons_append]
  gi_wp2
  gi_loopw [3] (fun i wr => ∃ k pre, k ≤ len ∧ ((∃ m : Nat, i = .int .i64 m ∧ m + k + 1 = len) ∨ (i = .int .i64 (-1) ∧ k = len)) ∧ pre.map Subtype.val = backL zs len k ∧ J pre wr ∧ KB n₀ Bs W wr)
    (fun i _ => (intOf i + 1).toNat)
  case atStart =>
    refine ⟨0, [], Nat.zero_le _, ?_, rfl, h0, Below.refl _ _, fun _ _ h => h⟩
    by_cases h : len = 0
    · right; subst h; exact ⟨rfl, rfl⟩
    · left; exact ⟨len - 1, by congr 1; omega, by omega⟩
  case round =>
    obtain ⟨k, pre, hk, hi, hpre, hJs, hnx⟩ := hrel
    have hB1 : wr.cell? ⟨Bs, 0, none⟩ = some (.slice (some ⟨b, off, none⟩) len cap) := hnx.2 _ _ hBs
    rcases hi with ⟨m, rfl, hm⟩ | ⟨rfl, hke⟩
    · have hcx : wr.cell? ⟨b, off + m, none⟩ = some (.int .u32 (nth zs m : Nat)) := (hnx.1.cell (p := ⟨b, off + m, none⟩) hb).trans (hc m (by omega))
      have hpl : pre.length = k := by rw [← backL_len zs len k, ← hpre, List.length_map]
      obtain ⟨fn, tmps, assign, body, hy, hR⟩ := hY pre ⟨(m, nth zs m), by show m < len; omega, hlt m⟩ wr hJs (by omega)
      dsimp only at hy
      have hm2 : (m : Int) < (len : Int) := by omega
      have HP := Alg.hid hpre
      clear hpre
      gi_wp2
      refine hR.mono ?_
      rintro e W3 (⟨rfl, hJ3, hk3⟩ | ⟨rfl, hJx3⟩)
      · gi_wp2
        go_roundw
        case rel =>
          refine ⟨k + 1, _, by omega, ?_, ?_, hJ3, hnx.t hk3⟩
          · by_cases h : m = 0
            · right; subst h; exact ⟨rfl, by omega⟩
            · left; exact ⟨m - 1, by congr 1; omega, by omega⟩
          · rw [List.map_append, HP.out, backL_succ, show len - 1 - k = m by omega, List.map_cons, List.map_nil]
        case measure => simp [intOf]
      · gi_wp2
        refine bodyPost_ret (results_none rfl _ _ _) rfl ?_
        exact ⟨⟨_, rfl⟩, .inr ⟨_, ⟨k + 1, by omega, by rw [List.map_append, HP.out, backL_succ, show len - 1 - k = m by omega, List.map_cons, List.map_nil]⟩, hJx3⟩⟩
    · subst hke
      gi_wp2
      go_end0
      exact ⟨⟨_, rfl⟩, .inl ⟨_, hpre, hJs⟩⟩
set_option maxRecDepth 100000 in
set_option maxHeartbeats 1000000 in
theorem back0_in (F : Fence) (n : Nat) (h7 : F.fn 118) (hro : F.round = none) (l Bs : Nat) (a : Option Addr) (cap : Nat) (J : List (BW 0) → World → Prop) (W : World) (hBs : W.cell? ⟨Bs, 0, none⟩ = some (.slice a 0 cap)) (h0 : J [] W) :
    CallsIn F n Tryd.prog 118 #[.func (.yield l) #[] #[], .pointer (some ⟨Bs, 0, none⟩)] W fun e W' => (∃ v, e = .returned v) ∧ J [] W' := by
  refine callsIn_of_wp Tryd.func118 rfl h7 ?_ hro
  simp only [Tryd.ntmps118, List.size_toArray, List.length_cons, List.length_nil, Nat.reduceAdd, Nat.reduceSub, Array.replicate_succ, Array.replicate_zero, List.push_toArray, List.append_toArray, List.nil_append, List.cons_append]
  gi_wp2
  gi_loopw [3] (fun i wr => i = .int .i64 (-1) ∧ J [] wr) (fun _ _ => 0)
  case atStart => exact ⟨rfl, h0⟩
  case round =>
    obtain ⟨rfl, hJs⟩ := hrel
    gi_wp2
    go_end0
    exact ⟨⟨_, rfl⟩, hJs⟩
theorem back_stops (F : Fence) (n : Nat) (h7 : F.fn 118) (hro : F.round = none) (hn : 1 ≤ n) (Bs n₀ : Nat) (a : Option Addr) (len cap : Nat) (zs : List Nat) (hreach : len ≤ 1099511627776) (w w0 : World) (hBs : Bs < w.heap.size) (hn₀ : n₀ ≤ w.heap.size)
    (hc : w.cell? ⟨Bs, 0, none⟩ = some (.slice a len cap)) (hI : Sl w0 a len cap zs) (hw0 : w0.heap.size ≤ n₀) (hI2 : Sl w a len cap zs) :
    SeqStopsK F n Tryd.prog 118 #[.pointer (some ⟨Bs, 0, none⟩)] (fun x : BW len => #[Value.int .i64 (x.1.1 : Nat), Value.int .u32 (x.1.2 : Nat)]) (KB n₀ Bs) (fun ys => ys.map Subtype.val = backL zs len len)
      (fun pre => ∃ k, k ≤ len ∧ pre.map Subtype.val = backL zs len k) len w := fun l J Jx W hW _ _ hY h0 => by
  have hc' := (hW.cell (p := ⟨Bs, 0, none⟩) hBs).trans hc
  by_cases hl : len = 0
  · subst hl
    exact (back0_in F n h7 hro l Bs a cap J W hc' h0).mono fun e W' ⟨he, hj⟩ => ⟨he, .inl ⟨[], rfl, hj⟩⟩
  · rcases hI.rd with h | ⟨b, off, rfl, hcs⟩
    · exact absurd h hl
    have hb : b < n₀ := Nat.lt_of_lt_of_le (cell_lt (hcs 0 (by omega))) hw0
    rcases hI2.rd with h | ⟨b', off', e, hcs2⟩
    · exact absurd h hl
    simp only [Option.some.injEq, Addr.mk.injEq, and_true] at e
    obtain ⟨rfl, rfl⟩ := e
    exact back1_in F n h7 hro hn l Bs n₀ b off len cap zs hI.lt hreach hb J Jx hY W hc' (fun j hj => (hW.cell (p := ⟨b, off + j, none⟩) (by show b < w.heap.size; omega)).trans (hcs2 j hj)) h0
set_option maxRecDepth 100000 in
set_option maxHeartbeats 4000000 in
theorem ppoly_Value (p a : Nat) (fa : Option Addr) (fn fcap : Nat) (fl : List Nat) (w : World) (hf : Sl w fa fn fcap fl) (hp0 : 0 < p) (hp : p < 4294967296) (ha : a < 4294967296) (hfn : fn ≤ 1099511627776) :
    Calls Tryd.prog 43 #[.agg #[.int .u32 p, .slice fa fn fcap], .int .u32 a] w fun e w' => e = .returned (.int .u32 (valL p fl a : Nat)) ∧ Below w.heap.size w w' := by
  refine (callsIn_wide (n := 5)).1 ?_
  refine callsIn_of_wp_marks Tryd.func43 rfl trivial ?_ rfl
  simp only [Tryd.ntmps43, List.size_toArray, List.length_cons, List.length_nil, Nat.reduceAdd, Nat.reduceSub, Array.replicate_succ, Array.replicate_zero, List.push_toArray, List.append_toArray, List.nil_append, List.cons_append]
  have hbx := boxes3 w #[.int .u32 (p : Int), .slice fa fn fcap] #[.int .u32 (a : Int)] #[.int .u32 0] 47 22 22
  gi_wp2
  refine ⟨trivial, ?_⟩
  generalize hW0 : (((w.alloc (.cells #[.int .u32 (p : Int), .slice fa fn fcap] 47)).alloc (.cells #[.int .u32 (a : Int)] 22)).alloc (.cells #[.int .u32 0] 22)) = W0 at hbx ⊢
  clear hW0
  refine (backward_in Fence.wide 4 trivial rfl fa fn fcap W0).mono ?_
  rintro e w' ⟨rfl, rfl⟩
  have hsz : w.heap.size + 3 ≤ W0.heap.size := hbx.size
  have hb2 := hbx.alloc_any (.cells #[.slice fa fn fcap] 23)
  have hbS := Box.new W0 #[.slice fa fn fcap] 23
  have hout := hb2.box (j := 2) rfl
  have c0 := hb2.cell' 0 0 _ _ rfl rfl
  have c1 := hb2.cell' 1 0 _ _ rfl rfl
  have hf2 := (hf.mono hb2.below)
  generalize hW1 : (W0.alloc (.cells #[.slice fa fn fcap] 23)) = W1 at hb2 hbS hout c0 c1 hf2 ⊢
  have hs1 : W1.heap.size = W0.heap.size + 1 := by rw [← hW1, World.size_alloc]
  clear hW1
  gi_wp2
  have hmx : Tryd.prog.follows .mixedOrders = true := by kernel_rfl
  refine wpIn_rangeFunc_ownG rfl (by omega) (gf := 118) (lb := #[.pointer (some ⟨W0.heap.size, 0, none⟩)]) rfl trivial (enters_of Tryd.func118 (by kernel_rfl) rfl)
    (back_stops Fence.wide 4 trivial rfl (by omega) W0.heap.size w.heap.size fa fn fcap fl hfn W1 w (by omega) (by omega) (hbS.cell 0 _ rfl) hf (Nat.le_refl _) hf2) KB.t (KB.b (by omega)) (Below.refl _ _) (fun _ => rfl)
    (fun pre W => (W.cell? ⟨w.heap.size, 0, none⟩ = some (.int .u32 (p : Int)) ∧ W.cell? ⟨w.heap.size + 1, 0, none⟩ = some (.int .u32 (a : Int)) ∧ W.cell? ⟨w.heap.size + 1 + 1, 0, none⟩ = some (.int .u32 (valB p a (pre.map Subtype.val) : Nat)) ∧ W.frozen? ⟨w.heap.size + 1 + 1, 0, none⟩ = false) ∧ Below w.heap.size w W)
    (fun _ _ _ => False)
    (OwnFrom.and (Own.from (fun s A B row hs hg hr => ⟨cell_kept hs.1 hg hr, cell_kept hs.2.1 hg hr, cell_kept hs.2.2.1 hg hr, (frozen_kept hs.2.2.1 hg hr).trans hs.2.2.2⟩) _) (ownFrom_below (Nat.le_refl _) (by omega)))
    (fun _ _ _ _ _ hs _ _ => hs)
    ⟨⟨c0, c1, hout.cell 0 _ rfl, hout.frozen 0⟩, hb2.below⟩
    (fun x => { tmps := #[.agg #[.int .u32 (p : Int), .slice fa fn fcap], .int .u32 (a : Int), .pointer (some ⟨w.heap.size, 0, none⟩), .pointer (some ⟨w.heap.size + 1, 0, none⟩), .int .u32 0, .pointer (some ⟨w.heap.size + 1 + 1, 0, none⟩), undef, .int .u32 (x.1.2 : Nat), .pointer (some ⟨w.heap.size, 1, none⟩), .slice fa fn fcap, .func (.func 118) #[] #[.pointer (some ⟨W0.heap.size, 0, none⟩)], .int .i64 (x.1.1 : Nat), .int .u32 (x.1.2 : Nat), undef, undef, undef, undef, undef, undef, undef, undef, undef, undef], defers := [] }) ?assign ?body ?done ?stop
  case assign =>
    intro l x W K hK
    gi_wp2
    exact hK
  case body =>
    rintro l pre x W ⟨⟨hp1, ha1, ho, hfz⟩, hB⟩ _
    have hv := valB_lt p a (pre.map Subtype.val) hp0
    have hx := x.2.2
    have HE := Alg.hid (valB_snoc p a (pre.map Subtype.val) x.1)
    have HM : (pre ++ [x]).map Subtype.val = pre.map Subtype.val ++ [x.1] := by simp
    generalize valB p a (pre.map Subtype.val) = v at ho hv HE
    gi_wp2
    refine wpIn_region_held2 9 [(1, 0), (1, 1), (1, 2), (1, 3), (1, 4), (1, 5), (1, 7), (0, 6), (0, 8), (3, 9)] (fun W => W.cell? ⟨w.heap.size, 0, none⟩ = some (.int .u32 (p : Int)) ∧ W.cell? ⟨w.heap.size + 1, 0, none⟩ = some (.int .u32 (a : Int)) ∧ W.cell? ⟨w.heap.size + 1 + 1, 0, none⟩ = some (.int .u32 (v : Nat)) ∧ W.frozen? ⟨w.heap.size + 1 + 1, 0, none⟩ = false) (fun _ => True) hmx (by kernel_rfl) (by kernel_rfl) (fun _ _ _ _ _ h => h) (fun _ _ => trivial) ⟨hp1, ha1, ho, hfz⟩ (fun hS => ?_)
    simp only [pick2, List.getElem?_cons_succ, List.getElem?_cons_zero]
    iterate 7
      (refine heldI_early (v := ?_) (by rfl) (fun _ => rfl) ?_ ?_
       rotate_left
       · intro W hSw; (try dsimp only at hSw); go_simp; (try with_reducible rfl))
      try simp only [Act.put, List.setIfInBounds_toArray, List.set_cons_zero, List.set_cons_succ]
    refine heldI_loud (fun K hK => ?_)
    go_simp
    refine ⟨trivial, ?_⟩
    refine (CallsIn.inRound l (callsIn_wide.2 (modp_Mul p v a _ hp0 hp (by omega) ha))).mono ?_
    rintro e w' ⟨rfl, rfl⟩
    refine hK.out _ _ hS (fun _ => ?_)
    clear hK K
    try simp only [Act.put, List.setIfInBounds_toArray, List.set_cons_zero, List.set_cons_succ]
    refine heldI_loud (fun K hK => ?_)
    go_simp
    refine ⟨trivial, ?_⟩
    refine (CallsIn.inRound l (callsIn_wide.2 (modp_Add p (mulM p v a) x.1.2 _ hp0 hp (Nat.lt_trans (mulM_lt _ _ _ hp0) hp) hx))).mono ?_
    rintro e w' ⟨rfl, rfl⟩
    refine hK.out _ _ hS (fun _ => ?_)
    clear hK K
    try simp only [Act.put, List.setIfInBounds_toArray, List.set_cons_zero, List.set_cons_succ]
    obtain ⟨g1, g2, g3, g4⟩ := hS
    refine heldI_store (fun K hK => ?_)
    go_simp
    refine hK.out _ _ trivial (fun _ => ?_)
    clear hK K
    try simp only [Act.put, List.setIfInBounds_toArray, List.set_cons_zero, List.set_cons_succ]
    refine heldI_nil ?_
    gi_wp2
    have hne0 : w.heap.size ≠ w.heap.size + 1 + 1 := by omega
    have hne1 : w.heap.size + 1 ≠ w.heap.size + 1 + 1 := by omega
    have hneS : W0.heap.size ≠ w.heap.size + 1 + 1 := by omega
    have off : ∀ (b i : Nat) (u : Value), b ≠ w.heap.size + 1 + 1 → W.cell? ⟨b, i, none⟩ = some u → (W.setCell ⟨w.heap.size + 1 + 1, 0, none⟩ (.int .u32 (addM p (mulM p v a) x.1.2 : Nat))).drew.cell? ⟨b, i, none⟩ = some u := fun b i u hne h =>
      (World.cell?_of_block (w := W) (Below.heap_setCell W ⟨w.heap.size + 1 + 1, 0, none⟩ _ b hne)).trans h
    have bel : Below w.heap.size W (W.setCell ⟨w.heap.size + 1 + 1, 0, none⟩ (.int .u32 (addM p (mulM p v a) x.1.2 : Nat))).drew :=
      ((Below.refl w.heap.size W).setCell (p := ⟨w.heap.size + 1 + 1, 0, none⟩) (by show w.heap.size ≤ w.heap.size + 1 + 1; omega) _).trans ⟨rfl, rfl, rfl, Nat.le_refl _, fun _ _ => rfl⟩
    refine ⟨((KeepsOthers.setCell _ _ _).trans (KeepsOthers.drew _)).from _, ⟨bel, fun i u h => off _ i u hneS h⟩, ⟨off _ _ _ hne0 hp1, off _ _ _ hne1 ha1, ?_, ?_⟩, hB.trans bel⟩
    · rw [HM, HE.out]
      exact setCell_cell W _ _ _ _ ho
    · rw [← hfz]
      simp [go_sem]
  case done =>
    rintro D ys W hD hys ⟨⟨_, _, ho, _⟩, hB⟩ hK
    have hvy : valB p a (ys.map Subtype.val) = valL p fl a := by rw [hys, valL, hf.len]
    rw [hvy] at ho
    gi_wp2
    refine ⟨by simp, .inl ⟨_, _, rfl, run_takeDeferred hK, ?_⟩⟩
    exact ⟨_, results_tmp rfl _ _ _, rfl, hB.trans (belowK_b (w := w) (Nat.le_refl _) W D _ _ (by omega) hK rfl rfl)⟩
  case stop =>
    rintro D c pre W _ _ h _
    exact h.elim
end Go.Proofs.YtbnjmeeaaieicaaDoor
