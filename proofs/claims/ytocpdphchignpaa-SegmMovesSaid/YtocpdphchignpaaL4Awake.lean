/- pergolalaw4.awake: it answers true; a distance as its three words. -/
import Derived.Test.YtocpdphchignpaaSegG
namespace Go.Proofs.Ytocpdphchignpaa
open Go.RowKit

def segH (a b p : Int × Int) : Int := if ok3 a b p = true then hiOf (segN a b p / lowG (segN a b p) (segD a b p)) else 0
def segL (a b p : Int × Int) : Int := if ok3 a b p = true then loOf (segN a b p / lowG (segN a b p) (segD a b p)) else 0
def segE (a b p : Int × Int) : Int := if ok3 a b p = true then segD a b p / lowG (segN a b p) (segD a b p) else 0
theorem segV_eq (a b p : Int × Int) : segV a b p = .agg #[.int .u64 (segH a b p), .int .u64 (segL a b p), .int .u64 (segE a b p)] := by
  unfold segV segH segL segE lowD
  split <;> rfl
theorem sdist_w (ax ay bx b_y px py : Int) (w : World) :
    Calls Try.prog 13 #[.agg #[.int .i64 ax, .int .i64 ay], .agg #[.int .i64 bx, .int .i64 b_y], .agg #[.int .i64 px, .int .i64 py]] w fun e w' => e = .returned (.agg #[.int .u64 (segH (ax, ay) (bx, b_y) (px, py)), .int .u64 (segL (ax, ay) (bx, b_y) (px, py)), .int .u64 (segE (ax, ay) (bx, b_y) (px, py))]) ∧ Below w.heap.size w w' := by
  have := sdist_any ax ay bx b_y px py w
  rw [segV_eq] at this
  exact this
theorem rsdist_w (ax ay bx b_y px py : Int) (w : World) :
    Calls Try.prog 24 #[.agg #[.int .i64 ax, .int .i64 ay], .agg #[.int .i64 bx, .int .i64 b_y], .agg #[.int .i64 px, .int .i64 py]] w fun e w' => e = .returned (.agg #[.int .u64 (segH (ax, ay) (bx, b_y) (px, py)), .int .u64 (segL (ax, ay) (bx, b_y) (px, py)), .int .u64 (segE (ax, ay) (bx, b_y) (px, py))]) ∧ Below w.heap.size w w' := by
  have := rsdist_any ax ay bx b_y px py w
  rw [segV_eq] at this
  exact this

theorem aw4a : meetV (0, 0) (2, 2) (0, 2) (2, 0) = true := by decide
theorem aw4b : segH (0, 0) (1, 1) (0, 1) = 0 := by decide
theorem aw4c : segL (0, 0) (1, 1) (0, 1) = 1 := by decide
theorem aw4d : segE (0, 0) (1, 1) (0, 1) = 2 := by decide
theorem aw4e : onV (0, 0) (4, 0) (3, 0) = true := by decide

set_option maxHeartbeats 400000 in
theorem awake4_any (w : World) :
    Calls Try.prog 14 #[] w fun e w' => e = .returned (.bool true) ∧ Below w.heap.size w w' := by
  have h1 := aw4a; have h2 := aw4b; have h3 := aw4c; have h4 := aw4d; have h5 := aw4e
  go_enter Try.func14, Try.ntmps14
  go_wp2_with (first | (go_at_call 10; refine (meet_any _ _ _ _ _ _ _ _ _).mono ?_; rintro e w' ⟨rfl, hB⟩; obtain ⟨hc, hf⟩ := keep hB; have hz := hB.size; try simp at hz) | (go_at_call 13; refine (sdist_w _ _ _ _ _ _ _).mono ?_; rintro e w' ⟨rfl, hB⟩; obtain ⟨hc, hf⟩ := keep hB; have hz := hB.size; try simp at hz) | (go_at_call 12; refine (on_any _ _ _ _ _ _ _).mono ?_; rintro e w' ⟨rfl, hB⟩; obtain ⟨hc, hf⟩ := keep hB; have hz := hB.size; try simp at hz))
  go_ret
  exact ⟨rfl, by (repeat' (first | (with_reducible exact Below.refl _ _) | (with_reducible assumption) | (with_reducible refine Below.alloc ?_ ?_ _) | (with_reducible refine Below.drew ?_) | (with_reducible refine Below.setCell ?_ ?_ _) | (with_reducible refine below_call (by with_reducible assumption) ?_ ?_) | (first | (with_reducible exact Nat.le_refl _) | (with_reducible assumption) | omega | (simp; done) | (simp; omega))))⟩
end Go.Proofs.Ytocpdphchignpaa
