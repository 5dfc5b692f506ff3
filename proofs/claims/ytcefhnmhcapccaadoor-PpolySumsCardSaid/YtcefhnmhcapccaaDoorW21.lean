/- modp.Field at 5. -/
import Derived.Test.YtcefhnmhcapccaaDoorW2
import Derived.Test.YtcefhnmhcapccaaDoorWB
import Derived.WalkMore
import Derived.Scope
open Alg Go Go.RowKit
namespace Go.Proofs.YtcefhnmhcapccaaDoor
open Go.RowKit
set_option maxRecDepth 100000 in
theorem prime_Is5 (w : World) :
    Calls Tryd.prog 89 #[.int .u64 5] w fun e w' => e = .returned (.bool true) ∧ Below w.heap.size w w' := by
  have i0 : ∀ w, (Instr.index 102 (.agg #[.int .u64 2, .int .u64 3, .int .u64 5, .int .u64 7, .int .u64 11, .int .u64 13, .int .u64 17, .int .u64 19, .int .u64 23, .int .u64 29, .int .u64 31, .int .u64 37]) (.int .i64 0)).run Tryd.prog w = .ok (.int .u64 2) w := fun _ => by kernel_rfl
  have i1 : ∀ w, (Instr.index 102 (.agg #[.int .u64 2, .int .u64 3, .int .u64 5, .int .u64 7, .int .u64 11, .int .u64 13, .int .u64 17, .int .u64 19, .int .u64 23, .int .u64 29, .int .u64 31, .int .u64 37]) (.int .i64 1)).run Tryd.prog w = .ok (.int .u64 3) w := fun _ => by kernel_rfl
  have i2 : ∀ w, (Instr.index 102 (.agg #[.int .u64 2, .int .u64 3, .int .u64 5, .int .u64 7, .int .u64 11, .int .u64 13, .int .u64 17, .int .u64 19, .int .u64 23, .int .u64 29, .int .u64 31, .int .u64 37]) (.int .i64 2)).run Tryd.prog w = .ok (.int .u64 5) w := fun _ => by kernel_rfl
  go_enter Tryd.func89, Tryd.ntmps89
  go_wp2
  refine wp_scope_straight ?_
  go_wp2
  go_loopw [19] (fun v wr => (v = .int .i64 0 ∨ v = .int .i64 1 ∨ v = .int .i64 2) ∧ Below w.heap.size w wr) (fun v _ => 12 - (intOf v).toNat)
  case atStart => exact ⟨Or.inl rfl, by go_grown⟩
  case round =>
    obtain ⟨hv, hb⟩ := hrel
    rcases hv with rfl | rfl | rfl
    · go_wp2
      go_roundw
      case rel => exact ⟨Or.inr (Or.inl rfl), hb⟩
      case measure => simp [intOf]
    · go_wp2
      go_roundw
      case rel => exact ⟨Or.inr (Or.inr rfl), hb⟩
      case measure => simp [intOf]
    · go_wp2
      (try rw [Exit.noGoto_ret])
      go_ret
      exact ⟨rfl, hb⟩
theorem modp_Field5 (w : World) :
    Calls Tryd.prog 72 #[.int .u32 5] w fun e w' => e = .returned (.int .i64 0) ∧ Below w.heap.size w w' := by
  go_enter Tryd.func72, Tryd.ntmps72
  go_wp2_with fail
  refine (prime_Is5 _).mono ?_
  rintro e w' ⟨rfl, hb⟩
  go_wp2
  go_ret
  exact ⟨rfl, hb⟩
end Go.Proofs.YtcefhnmhcapccaaDoor
