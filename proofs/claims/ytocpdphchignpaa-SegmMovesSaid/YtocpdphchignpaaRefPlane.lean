/- pergolaref3: Cross, Orient. -/
import Derived.Test.YtocpdphchignpaaPlaneB
import Derived.Test.YtocpdphchignpaaRefPt
namespace Go.Proofs.Ytocpdphchignpaa
open Go.RowKit

set_option maxHeartbeats 1000000 in
theorem rcross_any (ax ay bx b_y cx cy : Int) (w : World) :
    Calls Try.prog 40 #[.agg #[.int .i64 ax, .int .i64 ay], .agg #[.int .i64 bx, .int .i64 b_y], .agg #[.int .i64 cx, .int .i64 cy]] w fun e w' => e = .returned (.int .i64 (crossV (ax, ay) (bx, b_y) (cx, cy))) ∧ Below w.heap.size w w' := by
  cases h1 : okB (ax, ay) <;> cases h2 : okB (bx, b_y) <;> cases h3 : okB (cx, cy)
  case true.true.true =>
    have hv : crossV (ax, ay) (bx, b_y) (cx, cy) = (bx - ax) * (cy - ay) - (b_y - ay) * (cx - ax) := by simp [crossV, ok3, h1, h2, h3]
    rw [hv]; clear hv
    obtain ⟨⟨a1, a2⟩, a3, a4⟩ := (okB_iff _ _).1 h1
    obtain ⟨⟨b1, b2⟩, b3, b4⟩ := (okB_iff _ _).1 h2
    obtain ⟨⟨c1, c2⟩, c3, c4⟩ := (okB_iff _ _).1 h3
    obtain ⟨m1, m2⟩ := mul_far (bx - ax) (cy - ay) (by omega) (by omega)
    obtain ⟨m3, m4⟩ := mul_far (b_y - ay) (cx - ax) (by omega) (by omega)
    go_enter Try.func40, Try.ntmps40
    go_wp2_with (go_at_call 15; refine (point_any _ _ _).mono ?_; rintro e w' ⟨rfl, hB⟩; obtain ⟨hc, hf⟩ := keep hB; have hz := hB.size; try simp at hz)
    go_ret
    exact ⟨rfl, by (repeat' (first | (with_reducible exact Below.refl _ _) | (with_reducible assumption) | (with_reducible refine Below.alloc ?_ ?_ _) | (with_reducible refine Below.drew ?_) | (with_reducible refine Below.setCell ?_ ?_ _) | (with_reducible refine below_call (by with_reducible assumption) ?_ ?_) | (first | (with_reducible exact Nat.le_refl _) | (with_reducible assumption) | omega | (simp; done) | (simp; omega))))⟩
  all_goals
    have hv : crossV (ax, ay) (bx, b_y) (cx, cy) = 0 := by simp [crossV, ok3, h1, h2, h3]
    rw [hv]; clear hv
    go_enter Try.func40, Try.ntmps40
    go_wp2_with (go_at_call 15; refine (point_any _ _ _).mono ?_; rintro e w' ⟨rfl, hB⟩; obtain ⟨hc, hf⟩ := keep hB; have hz := hB.size; try simp at hz)
    go_ret
    exact ⟨rfl, by (repeat' (first | (with_reducible exact Below.refl _ _) | (with_reducible assumption) | (with_reducible refine Below.alloc ?_ ?_ _) | (with_reducible refine Below.drew ?_) | (with_reducible refine Below.setCell ?_ ?_ _) | (with_reducible refine below_call (by with_reducible assumption) ?_ ?_) | (first | (with_reducible exact Nat.le_refl _) | (with_reducible assumption) | omega | (simp; done) | (simp; omega))))⟩

set_option maxHeartbeats 1000000 in
theorem rorient_any (ax ay bx b_y cx cy : Int) (w : World) :
    Calls Try.prog 18 #[.agg #[.int .i64 ax, .int .i64 ay], .agg #[.int .i64 bx, .int .i64 b_y], .agg #[.int .i64 cx, .int .i64 cy]] w fun e w' => e = .returned (.int .i64 (cmpV (crossV (ax, ay) (bx, b_y) (cx, cy)) 0)) ∧ Below w.heap.size w w' := by
  go_enter Try.func18, Try.ntmps18
  go_wp2_with (first | (go_at_call 40; refine (rcross_any _ _ _ _ _ _ _).mono ?_; rintro e w' ⟨rfl, hB⟩; obtain ⟨hc, hf⟩ := keep hB; have hz := hB.size; try simp at hz))
  all_goals (go_ret; exact ⟨ret_int (by unfold cmpV; omega), by (repeat' (first | (with_reducible exact Below.refl _ _) | (with_reducible assumption) | (with_reducible refine Below.alloc ?_ ?_ _) | (with_reducible refine Below.drew ?_) | (with_reducible refine Below.setCell ?_ ?_ _) | (with_reducible refine below_call (by with_reducible assumption) ?_ ?_) | (first | (with_reducible exact Nat.le_refl _) | (with_reducible assumption) | omega | (simp; done) | (simp; omega))))⟩)
end Go.Proofs.Ytocpdphchignpaa
