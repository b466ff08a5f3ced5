/- pergolaalike.Code: the number of an error. -/
import Derived.Test.YthamagnlpndnoaaDoorIs
namespace Go.Proofs.YthamagnlpndnoaaDoor
open Go.RowKit

theorem code_nil (w : World) :
    Calls Tryd.prog 11 #[.nilIface] w fun e w' => e = .returned (.int .i64 0) ∧ w = w' := by
  go_enter Tryd.func11, Tryd.ntmps11
  go_wp2
  go_ret
  exact ⟨rfl, rfl⟩

set_option maxHeartbeats 400000 in
theorem code_err (n : Int) (h0 : 1 ≤ n) (h1 : n ≤ 15) (w : World) :
    Calls Tryd.prog 11 #[.iface 53 (.int .i64 n)] w fun e w' => e = .returned (.int .i64 n) ∧ w = w' := by
  go_enter Tryd.func11, Tryd.ntmps11
  go_wp2
  go_loop [3] (fun t => ∃ k : Int, 1 ≤ k ∧ k ≤ n ∧ t = .int .i64 k) (fun t => (n - intOf t).toNat)
  case atStart => exact ⟨1, by omega, h0, rfl⟩
  case round =>
    obtain ⟨k, hk1, hk2, rfl⟩ := hrel
    by_cases hlt : k < n
    · have hb : (n == k) = false := beq_eq_false_iff_ne.2 (by omega)
      go_wp2_with (go_at_call 27; refine (is_any _ _ _).mono ?_; rintro e w' ⟨rfl, rfl⟩)
      go_round
      case rel => exact ⟨k + 1, by omega, by omega, rfl⟩
      case measure => simp [intOf]; omega
    · have hb : (n == k) = true := beq_iff_eq.2 (by omega)
      go_wp2_with (go_at_call 27; refine (is_any _ _ _).mono ?_; rintro e w' ⟨rfl, rfl⟩)
      go_ret
      exact ⟨ret_int (by omega), rfl⟩
end Go.Proofs.YthamagnlpndnoaaDoor
