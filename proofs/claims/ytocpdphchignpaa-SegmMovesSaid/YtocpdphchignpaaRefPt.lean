/- pergolaref3.Point. -/
import Derived.Test.YtocpdphchignpaaMay
import Derived.BigGuardPart
namespace Go.Proofs.Ytocpdphchignpaa
open Go.RowKit

theorem okB_eq (x y : Int) : okB (x, y) = (decide (-1073741823 ≤ x) && (decide (x ≤ 1073741823) && (decide (-1073741823 ≤ y) && decide (y ≤ 1073741823)))) := by
  rw [Bool.eq_iff_iff, okB_iff]; simp; omega

set_option maxHeartbeats 400000 in
theorem point_any (x y : Int) (w : World) :
    Calls Try.prog 15 #[.agg #[.int .i64 x, .int .i64 y]] w fun e w' => e = .returned (.bool (okB (x, y))) ∧ Below w.heap.size w w' := by
  rw [okB_eq]
  go_enter Try.func15, Try.ntmps15
  go_wp2
  all_goals (go_ret; exact ⟨ret_bool (by first | (simp [*]; done) | (simp [*]; omega)), by (repeat' (first | (with_reducible exact Below.refl _ _) | (with_reducible assumption) | (with_reducible refine Below.alloc ?_ ?_ _) | (with_reducible refine Below.drew ?_) | (with_reducible refine Below.setCell ?_ ?_ _) | (with_reducible refine below_call (by with_reducible assumption) ?_ ?_) | (first | (with_reducible exact Nat.le_refl _) | (with_reducible assumption) | omega | (simp; done) | (simp; omega))))⟩)
end Go.Proofs.Ytocpdphchignpaa
