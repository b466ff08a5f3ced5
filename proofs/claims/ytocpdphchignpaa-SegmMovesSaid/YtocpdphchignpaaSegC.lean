/- segm: Meet. -/
import Derived.Test.YtocpdphchignpaaSegB
import Derived.BigGuardPart
namespace Go.Proofs.Ytocpdphchignpaa
open Go.RowKit

def meetV (a b c d : Int × Int) : Bool := ok4 a b c d && (properV a b c d || (onV a b c || (onV a b d || (onV c d a || onV c d b))))

set_option maxHeartbeats 1000000 in
theorem meet_any (ax ay bx b_y cx cy dx dy : Int) (w : World) :
    Calls Try.prog 10 #[.agg #[.int .i64 ax, .int .i64 ay], .agg #[.int .i64 bx, .int .i64 b_y], .agg #[.int .i64 cx, .int .i64 cy], .agg #[.int .i64 dx, .int .i64 dy]] w fun e w' => e = .returned (.bool (meetV (ax, ay) (bx, b_y) (cx, cy) (dx, dy))) ∧ Below w.heap.size w w' := by
  cases h : ok4 (ax, ay) (bx, b_y) (cx, cy) (dx, dy)
  · have hv : meetV (ax, ay) (bx, b_y) (cx, cy) (dx, dy) = false := by unfold meetV; rw [h]; rfl
    rw [hv]
    go_enter Try.func10, Try.ntmps10
    go_wp2_with fail
    refine (smay4 _ _ (by go_simp) ax ay bx b_y cx cy dx dy (by go_simp) (by go_simp) (by go_simp) (by go_simp) (by go_simp) (by go_simp) (by go_simp) (by go_simp)).mono ?_; rintro e w1 ⟨rfl, hB1⟩; obtain ⟨hc1, hf1⟩ := keep hB1; have hz1 := hB1.size; try simp at hz1
    go_wp2
    go_ret
    exact ⟨rfl, by (repeat' (first | (with_reducible exact Below.refl _ _) | (with_reducible assumption) | (with_reducible refine Below.alloc ?_ ?_ _) | (with_reducible refine Below.drew ?_) | (with_reducible refine Below.setCell ?_ ?_ _) | (with_reducible refine below_call (by with_reducible assumption) ?_ ?_) | (first | (with_reducible exact Nat.le_refl _) | (with_reducible assumption) | omega | (simp; done) | (simp; omega))))⟩
  · have hv : meetV (ax, ay) (bx, b_y) (cx, cy) (dx, dy) = (properV (ax, ay) (bx, b_y) (cx, cy) (dx, dy) || (onV (ax, ay) (bx, b_y) (cx, cy) || (onV (ax, ay) (bx, b_y) (dx, dy) || (onV (cx, cy) (dx, dy) (ax, ay) || onV (cx, cy) (dx, dy) (bx, b_y))))) := by unfold meetV; rw [h]; rfl
    rw [hv]
    clear hv
    go_enter Try.func10, Try.ntmps10
    go_wp2_with fail
    refine (smay4 _ _ (by go_simp) ax ay bx b_y cx cy dx dy (by go_simp) (by go_simp) (by go_simp) (by go_simp) (by go_simp) (by go_simp) (by go_simp) (by go_simp)).mono ?_; rintro e w1 ⟨rfl, hB1⟩; obtain ⟨hc1, hf1⟩ := keep hB1; have hz1 := hB1.size; try simp at hz1
    go_wp2_with (first | (go_at_call 11; refine (proper_any _ _ _ _ _ _ _ _ _).mono ?_; rintro e w' ⟨rfl, hB⟩; obtain ⟨hc, hf⟩ := keep hB; have hz := hB.size; try simp at hz) | (go_at_call 12; refine (on_any _ _ _ _ _ _ _).mono ?_; rintro e w' ⟨rfl, hB⟩; obtain ⟨hc, hf⟩ := keep hB; have hz := hB.size; try simp at hz))
    all_goals (go_ret; exact ⟨ret_bool (by simp [*]), by (repeat' (first | (with_reducible exact Below.refl _ _) | (with_reducible assumption) | (with_reducible refine Below.alloc ?_ ?_ _) | (with_reducible refine Below.drew ?_) | (with_reducible refine Below.setCell ?_ ?_ _) | (with_reducible refine below_call (by with_reducible assumption) ?_ ?_) | (first | (with_reducible exact Nat.le_refl _) | (with_reducible assumption) | omega | (simp; done) | (simp; omega))))⟩)
end Go.Proofs.Ytocpdphchignpaa
