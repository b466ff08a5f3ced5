/- plane.CheckPoint. -/
import Derived.Test.YtocpdphchignpaaPlaneB
namespace Go.Proofs.Ytocpdphchignpaa
open Go.RowKit

set_option maxHeartbeats 400000 in
theorem checkPt_any (x y : Int) (w : World) :
    Calls Try.prog 45 #[.agg #[.int .i64 x, .int .i64 y]] w fun e w' => e = .returned (errV (if okB (x, y) = true then 0 else 2)) ∧ Below w.heap.size w w' := by
  cases h : okB (x, y)
  · rw [show errV (if false = true then 0 else 2) = .iface 65 (.int .i64 2) from rfl]
    go_enter Try.func45, Try.ntmps45
    go_wp2_with (go_at_call 48; refine (may1 _ _ (by simp) _ _ _).mono ?_; rintro e w' ⟨rfl, hB⟩; obtain ⟨hc, hf⟩ := keep hB; have hz := hB.size; try simp at hz)
    go_ret
    exact ⟨rfl, by (repeat' (first | (with_reducible exact Below.refl _ _) | (with_reducible assumption) | (with_reducible refine Below.alloc ?_ ?_ _) | (with_reducible refine Below.drew ?_) | (with_reducible refine Below.setCell ?_ ?_ _) | (with_reducible refine below_call (by with_reducible assumption) ?_ ?_) | (first | (with_reducible exact Nat.le_refl _) | (with_reducible assumption) | omega | (simp; done) | (simp; omega))))⟩
  · rw [show errV (if true = true then 0 else 2) = .nilIface from rfl]
    go_enter Try.func45, Try.ntmps45
    go_wp2_with (go_at_call 48; refine (may1 _ _ (by simp) _ _ _).mono ?_; rintro e w' ⟨rfl, hB⟩; obtain ⟨hc, hf⟩ := keep hB; have hz := hB.size; try simp at hz)
    go_ret
    exact ⟨rfl, by (repeat' (first | (with_reducible exact Below.refl _ _) | (with_reducible assumption) | (with_reducible refine Below.alloc ?_ ?_ _) | (with_reducible refine Below.drew ?_) | (with_reducible refine Below.setCell ?_ ?_ _) | (with_reducible refine below_call (by with_reducible assumption) ?_ ?_) | (first | (with_reducible exact Nat.le_refl _) | (with_reducible assumption) | omega | (simp; done) | (simp; omega))))⟩
theorem checkPt_no (x y : Int) (h : okB (x, y) = false) (w : World) :
    Calls Try.prog 45 #[.agg #[.int .i64 x, .int .i64 y]] w fun e w' => e = .returned (.iface 65 (.int .i64 2)) ∧ Below w.heap.size w w' := by
  have := checkPt_any x y w
  rw [h] at this
  exact this
theorem checkPt_ok (x y : Int) (h : okB (x, y) = true) (w : World) :
    Calls Try.prog 45 #[.agg #[.int .i64 x, .int .i64 y]] w fun e w' => e = .returned .nilIface ∧ Below w.heap.size w w' := by
  have := checkPt_any x y w
  rw [h] at this
  exact this
end Go.Proofs.Ytocpdphchignpaa
