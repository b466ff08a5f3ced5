/- pergolalaw3.awake: it answers true. -/
import Derived.Test.YtandehgdmefpaaaPlaneB
namespace Go.Proofs.Ytandehgdmefpaaa
open Go.RowKit

theorem aw1 : cmpV (crossV (0, 0) (1, 0) (0, 1)) 0 = 1 := by decide
theorem aw2 : hiOf (distN 0 0 2 2 5 6) = 0 := by decide
theorem aw3 : loOf (distN 0 0 2 2 5 6) = 25 := by decide
theorem aw4 : distD 0 0 2 2 5 6 = 1 := by decide
theorem aw5 : hasB 0 0 2 2 1 1 = true := by decide

set_option maxHeartbeats 400000 in
theorem awake_any (w : World) :
    Calls Try.prog 14 #[] w fun e w' => e = .returned (.bool true) ∧ Below w.heap.size w w' := by
  have h1 := aw1; have h2 := aw2; have h3 := aw3; have h4 := aw4; have h5 := aw5
  go_enter Try.func14, Try.ntmps14
  go_wp2_with (first | (go_at_call 12; refine (orient_any _ _ _ _ _ _ _).mono ?_; rintro e w' ⟨rfl, hB⟩; obtain ⟨hc, hf⟩ := keep hB; have hz := hB.size; try simp at hz) | (go_at_call 19; refine (dist_any _ _ _ _ _ _ _).mono ?_; rintro e w' ⟨rfl, hB⟩; obtain ⟨hc, hf⟩ := keep hB; have hz := hB.size; try simp at hz) | (go_at_call 18; refine (has_any _ _ _ _ _ _ _).mono ?_; rintro e w' ⟨rfl, hB⟩; obtain ⟨hc, hf⟩ := keep hB; have hz := hB.size; try simp at hz))
  go_ret
  exact ⟨rfl, by (repeat' (first | (with_reducible exact Below.refl _ _) | (with_reducible assumption) | (with_reducible refine Below.alloc ?_ ?_ _) | (with_reducible refine Below.drew ?_) | (with_reducible refine Below.setCell ?_ ?_ _) | (with_reducible refine below_call (by with_reducible assumption) ?_ ?_) | (first | (with_reducible exact Nat.le_refl _) | (with_reducible assumption) | omega | (simp; done) | (simp; omega))))⟩
end Go.Proofs.Ytandehgdmefpaaa
