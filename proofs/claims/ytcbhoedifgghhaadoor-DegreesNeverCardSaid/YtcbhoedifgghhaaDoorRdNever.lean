/- No product of two polynomials of degree 1 and more is ever proved irreducible, whatever paper is laid: for all such polynomials and papers. -/
import Derived.Test.YtcbhoedifgghhaaDoorR1
import Derived.Test.YtcbhoedifgghhaaDoorLE
import Derived.Test.YtcbhoedifgghhaaDoorR5
import Derived.Test.YtcbhoedifgghhaaDoorR6
import Derived.Test.YtcbhoedifgghhaaDoorCards
import Derived.Test.YtcbhoedifgghhaaDoorTie
import Derived.SevenTiedAt
import Derived.Stop.Joined
open Alg
namespace Go.Proofs.YtcbhoedifgghhaaDoor
open Go.ChangeShapes Go.WideShapes Go.ChangeAt Go.WideMaps Go.WideElems Go.RowKit
set_option linter.unusedVariables false
set_option maxRecDepth 100000
namespace DegreesNever
abbrev tabs := Rows.degreesNeverRow.laid
theorem door_met (os : Os) (args : Array Value) : laidMetH Tryd.prog tabs ((World.doorLaid Tryd.prog 2000 os).forCall (fun _ _ => 0) ⟨#[], args, []⟩).memory :=
  laidMetH_of_parts3 (fuel := 8) (laidMet_of_run' 8 (by kernel_rfl) (by kernel_rfl)) (by kernel_rfl) (by kernel_rfl)
theorem lifted (os : Os) (started : os.Started) (H : Type) (enc : TypeId × Value → H) :
    ReturnsInHanded {} Tryd.checked os 9 .any (fun w args => (Rows.degreesNeverSpec.pre enc Tryd.prog Tryd.f9 [] false w args ∧ laidMetH Tryd.prog tabs w) ∧ sizedMet enc Tryd.prog Tryd.f9 (OpenSpec.ofChange Rows.degreesNeverSpec) false w args)
      (Rows.degreesNeverSpec.post enc Tryd.prog Tryd.f9 false true false false) := by
  refine returnsInHanded_of_change_and (C := Tryd.checked) (X := fun w _ => laidMetH Tryd.prog tabs w) (fun _ _ _ hh h => h.of_heap hh) own started (by kernel_rfl) Tryd.func9
    (ChangeSpec.witness_shaped (enc := enc) (C := Tryd.checked) (os := os) (X := fun w _ => laidMetH Tryd.prog tabs w) false (World.doorLaid Tryd.prog 2000 os) #[.agg #[.int .u32 0, .slice none 0 0], .agg #[.int .u32 0, .slice none 0 0], .slice none 0 0] 8 rfl (World.shaped_of_RefB (by kernel_rfl) (by kernel_rfl)) (by kernel_rfl) (by kernel_rfl) (by kernel_rfl) (door_met os _)) ?_
  intro W base args ds gs before hval0 hW _ hsz0 hL _
  have hval : ∀ (j : Nat) t v, Tryd.f9.params[j]? = some t → args[j]? = some v → Value.okWide Tryd.prog W .any base t v := hval0
  have hW' := hW
  obtain ⟨p, q, hA0, hV, rfl, hfz, hnd⟩ := hW
  have hAr : DataW.TrodAll enc Tryd.prog W 0 (fun _ => true) true Tryd.f9.params.toList args.toList ds p := hA0
  rw [Tryd.params9] at hAr hval
  obtain ⟨v0, vs0, d0, ds0, p0, q0, hargs, rfl, rfl, h0, r0⟩ := trodAll_cons hAr
  obtain ⟨v1, vs1, d1, ds1, p1, q1, rfl, rfl, rfl, h1, r1⟩ := trodAll_cons r0
  obtain ⟨v2, vs2, d2, ds2, p2, q2, rfl, rfl, rfl, h2, r2⟩ := trodAll_cons r1
  obtain ⟨rfl, rfl, rfl⟩ := trodAll_nil r2
  obtain rfl : args = #[v0, v1, v2] := by cases args; simp_all
  obtain ⟨rfl, rfl⟩ := trodVars_none hV
  have k0 := h0
  have k1 := h1
  have k2 := h2
  have lt0 : ∀ x ∈ p0, x.block < W.heap.size := by obtain ⟨m, hm⟩ := k0; exact DataW.trod_lt m _ _ _ hm
  have lt1 : ∀ x ∈ p1, x.block < W.heap.size := by obtain ⟨m, hm⟩ := k1; exact DataW.trod_lt m _ _ _ hm
  have lt2 : ∀ x ∈ p2, x.block < W.heap.size := by obtain ⟨m, hm⟩ := k2; exact DataW.trod_lt m _ _ _ hm
  have hsz : (DataW.weightsEach Tryd.prog (Tryd.f9.params.toList ++ Rows.degreesNeverSpec.plain.varTypes Tryd.prog) ([d0, d1, d2] ++ [])).all (· ≤ reachBytes) = true := hsz0
  rw [Tryd.params9] at hsz
  obtain ⟨g0, a0, n0, c0, l0, rfl, hb0, hs0⟩ := open_pp (hval 0 25 v0 rfl rfl) h0
  obtain ⟨g1, a1, n1, c1, l1, rfl, hb1, hs1⟩ := open_pp (hval 1 25 v1 rfl rfl) h1
  have rm2 : Room d2 40 := fun k hk => of_decide_eq_true (List.all_eq_true.1 hsz k (DataW.weights_mem_each (j := 2) rfl rfl k hk))
  obtain ⟨wa2, wn2, wc2, L2, rfl, hw2, hfew2⟩ := open_bs (hval 2 40 v2 rfl rfl) h2 rm2
  clear hA0 hval0
  refine (never15_walk g0 a0 n0 c0 l0 g1 a1 n1 c1 l1 wa2 wn2 wc2 L2 W hs0 hs1 hw2 hb0 hb1 (fun q h => fieldC_of (tab_of_laid hL) q h) hfew2).mono fun e W' ⟨he, bel⟩ => ?_
  subst he
  exact ⟨_, rfl, _, _, _, [], _, [], hW', trodAll_mk1 (shut_bool Tryd.underlying4 _), (trodAll_cons_mk (Below.trod laidOut (by kernel_rfl) (of_decide_eq_true (by kernel_rfl)) k0 bel lt0) (trodAll_cons_mk (Below.trod laidOut (by kernel_rfl) (of_decide_eq_true (by kernel_rfl)) k1 bel lt1) (trodAll_cons_mk (Below.trod laidOut (by kernel_rfl) (of_decide_eq_true (by kernel_rfl)) k2 bel lt2) trodAll_mk0))), rfl, bel.frame _, fun h => by cases h⟩
theorem over : Rows.DegreesNeverSaid :=
  OpenClaim.holds_of_wide 9 Tryd.f9 rfl rfl rfl rfl rfl rfl rfl ⟨rfl, rfl, rfl, rfl, rfl⟩ rfl rfl rfl rfl rfl (by kernel_rfl) Tryd.func9 (by kernel_rfl)
    (of_decide_eq_true (by kernel_rfl)) (by unfold Func.isWrapper; first | (rw [if_pos (by decide +kernel)]; kernel_rfl) | (rw [if_neg (by decide +kernel)]; exact ⟨rfl, rfl⟩))
    (fun os started H enc _ => lifted os started H enc)
end DegreesNever
open Go
theorem degreesNever_done : Rows.DegreesNeverCardSaid :=
  Claim7.holds_tied_plain_at .later [] [.data] true (true, "b86e7db31e6a3da1909ddf5499fffab8158d9e9b4576ff0b979c6ae6c9d4ccf5") false
    DegreesNever.over (fun _ h => by cases h) (by kernel_rfl) (fun _ h => by cases h) degreesNever_row_tie rfl ⟨rfl, rfl⟩ (by kernel_rfl) rfl
    (fun f fn hf hfn => by
      obtain rfl : f = 9 := Option.some.inj ((show Tryd.prog.funcNamed "algebrist/algebristlaw15.DegreesNever" = some 9 by kernel_rfl).symm.trans hf) |>.symm
      obtain rfl : fn = Tryd.f9 := (Option.some.inj (Tryd.func9.symm.trans hfn)).symm
      exact ⟨by kernel_rfl, fun j t ht => by
        rw [Tryd.params9] at ht
        have hm : t ∈ [25, 25, 40] := by simpa using Array.mem_of_getElem? ht
        have hall : ([25, 25, 40].all fun u => !Tryd.prog.wantsStandIn u) = true := by kernel_rfl
        exact (show Tryd.prog.wantsStandIn t = false by simpa using List.all_eq_true.1 hall t hm)⟩)
    (by kernel_rfl)
end Go.Proofs.YtcbhoedifgghhaaDoor
