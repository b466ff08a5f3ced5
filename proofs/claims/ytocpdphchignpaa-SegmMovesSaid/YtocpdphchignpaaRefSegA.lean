/- pergolaref3: On. -/
import Derived.Test.YtocpdphchignpaaSegC
import Derived.Test.YtocpdphchignpaaRefPlane
import Derived.Test.YtocpdphchignpaaRefPt
namespace Go.Proofs.Ytocpdphchignpaa
open Go.RowKit

set_option maxHeartbeats 1000000 in
theorem ron_any (ax ay bx b_y px py : Int) (w : World) :
    Calls Try.prog 19 #[.agg #[.int .i64 ax, .int .i64 ay], .agg #[.int .i64 bx, .int .i64 b_y], .agg #[.int .i64 px, .int .i64 py]] w fun e w' => e = .returned (.bool (onV (ax, ay) (bx, b_y) (px, py))) ∧ Below w.heap.size w w' := by
  have mn : ∀ x y : Int, (if y < x then y else x) = minV x y := fun _ _ => rfl
  have mx : ∀ x y : Int, (if x < y then y else x) = maxV x y := fun _ _ => rfl
  go_enter Try.func19, Try.ntmps19
  go_wp2_with (first | (go_at_call 15; refine (point_any _ _ _).mono ?_; rintro e w' ⟨rfl, hB⟩; obtain ⟨hc, hf⟩ := keep hB; have hz := hB.size; try simp at hz) | (go_at_call 40; refine (rcross_any _ _ _ _ _ _ _).mono ?_; rintro e w' ⟨rfl, hB⟩; obtain ⟨hc, hf⟩ := keep hB; have hz := hB.size; try simp at hz))
  all_goals (go_ret; exact ⟨ret_bool (by first | (simp [onV, ok3, *]; done) | (simp [onV, ok3, *]; omega) | (clear hB hc hf; simp_all [onV, ok3]; done) | (clear hB hc hf; simp_all [onV, ok3]; omega)), by (repeat' (first | (with_reducible exact Below.refl _ _) | (with_reducible assumption) | (with_reducible refine Below.alloc ?_ ?_ _) | (with_reducible refine Below.drew ?_) | (with_reducible refine Below.setCell ?_ ?_ _) | (with_reducible refine below_call (by with_reducible assumption) ?_ ?_) | (first | (with_reducible exact Nat.le_refl _) | (with_reducible assumption) | omega | (simp; done) | (simp; omega))))⟩)
end Go.Proofs.Ytocpdphchignpaa
