/- pergolaref3: CheckBox, BoxHas, BoxMeets, BoxInside: what plane's own answer. -/
import Derived.Test.YtocpdphchignpaaPlaneA
import Derived.Test.YtocpdphchignpaaRefPt
namespace Go.Proofs.Ytocpdphchignpaa
open Go.RowKit

set_option maxHeartbeats 400000 in
theorem rcheckBox_any (lx ly hx hy : Int) (w : World) :
    Calls Try.prog 25 #[.agg #[.int .i64 lx, .int .i64 ly, .int .i64 hx, .int .i64 hy]] w fun e w' => e = .returned (.int .i64 (boxCode lx ly hx hy)) ∧ Below w.heap.size w w' := by
  go_enter Try.func25, Try.ntmps25
  go_wp2_with (go_at_call 15; refine (point_any _ _ _).mono ?_; rintro e w' ⟨rfl, hB⟩; obtain ⟨hc, hf⟩ := keep hB; have hz := hB.size; try simp at hz)
  all_goals (go_ret; exact ⟨ret_int (by first | (simp [boxCode, ok2, *]; done) | (simp [boxCode, ok2, *]; omega) | (clear hB hc hf; simp_all [boxCode, ok2]; done) | (clear hB hc hf; simp_all [boxCode, ok2]; omega)), by (repeat' (first | (with_reducible exact Below.refl _ _) | (with_reducible assumption) | (with_reducible refine Below.alloc ?_ ?_ _) | (with_reducible refine Below.drew ?_) | (with_reducible refine Below.setCell ?_ ?_ _) | (with_reducible refine below_call (by with_reducible assumption) ?_ ?_) | (first | (with_reducible exact Nat.le_refl _) | (with_reducible assumption) | omega | (simp; done) | (simp; omega))))⟩)

theorem boxB_code (b : Int × Int × Int × Int) : boxB b = (boxCode b.1 b.2.1 b.2.2.1 b.2.2.2 == 0) := rfl

set_option maxHeartbeats 1000000 in
theorem rhas_any (lx ly hx hy px py : Int) (w : World) :
    Calls Try.prog 26 #[.agg #[.int .i64 lx, .int .i64 ly, .int .i64 hx, .int .i64 hy], .agg #[.int .i64 px, .int .i64 py]] w fun e w' => e = .returned (.bool (hasB lx ly hx hy px py)) ∧ Below w.heap.size w w' := by
  go_enter Try.func26, Try.ntmps26
  go_wp2_with (first | (go_at_call 25; refine (rcheckBox_any _ _ _ _ _).mono ?_; rintro e w' ⟨rfl, hB⟩; obtain ⟨hc, hf⟩ := keep hB; have hz := hB.size; try simp at hz) | (go_at_call 15; refine (point_any _ _ _).mono ?_; rintro e w' ⟨rfl, hB⟩; obtain ⟨hc, hf⟩ := keep hB; have hz := hB.size; try simp at hz))
  all_goals (go_ret; exact ⟨ret_bool (by first | (simp [hasB, boxB, *]; done) | (simp [hasB, boxB, *]; omega) | (clear hB hc hf; simp_all [hasB, boxB]; done) | (clear hB hc hf; simp_all [hasB, boxB]; omega)), by (repeat' (first | (with_reducible exact Below.refl _ _) | (with_reducible assumption) | (with_reducible refine Below.alloc ?_ ?_ _) | (with_reducible refine Below.drew ?_) | (with_reducible refine Below.setCell ?_ ?_ _) | (with_reducible refine below_call (by with_reducible assumption) ?_ ?_) | (first | (with_reducible exact Nat.le_refl _) | (with_reducible assumption) | omega | (simp; done) | (simp; omega))))⟩)

end Go.Proofs.Ytocpdphchignpaa
