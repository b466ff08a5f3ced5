/- pergolalaw2: what the document fixes. -/
import Derived.Test.YthamagnlpndnoaaDoorRatioT
namespace Go.Proofs.YthamagnlpndnoaaDoor
open Go.RowKit

theorem aw2a : hiOf (num 0 6 / lowG (num 0 6) 4) = 0 := by decide
theorem aw2b : loOf (num 0 6 / lowG (num 0 6) 4) = 3 := by decide
theorem aw2c : 4 / lowG (num 0 6) 4 = 2 := by decide
theorem aw2d : distText (num 0 3) 2 = ⟨#[51, 47, 50]⟩ := by
  unfold distText numeral
  rw [if_neg (by decide), if_neg (by decide), show num 0 3 / lowG (num 0 3) 2 = 3 from by decide, show 2 / lowG (num 0 3) 2 = 2 from by decide]
  simp [Lib.decDigits]
  rfl

set_option maxHeartbeats 1000000 in
theorem awake2_any (w : World) (htab : Tab w) :
    Calls Tryd.prog 14 #[] w fun e w' => e = .returned (.bool true) ∧ Below w.heap.size w w' := by
  have HM := fun w => make_any 0 6 4 (by unfold Word; omega) (by unfold Word; omega) (by unfold Word; omega) (by omega) w
  rw [aw2a, aw2b, aw2c] at HM
  have HT := fun w ht => rtext_any 0 3 2 (by unfold Word; omega) (by unfold Word; omega) (by unfold Word; omega) w ht
  rw [aw2d] at HT
  go_enter Tryd.func14, Tryd.ntmps14
  go_wp2_with fail
  refine (HM _).mono ?_; rintro e w1 ⟨rfl, hB1⟩; obtain ⟨hc1, hf1⟩ := keep hB1; have hz1 := hB1.size; try simp at hz1
  go_wp2_with fail
  refine (HT _ (htab.below (by (repeat' (first | (with_reducible exact Below.refl _ _) | (with_reducible assumption) | (with_reducible refine Below.alloc ?_ ?_ _) | (with_reducible refine Below.drew ?_) | (with_reducible refine drewN_below ?_ _) | (with_reducible refine Below.setCell ?_ ?_ _) | (with_reducible refine below_call (by with_reducible assumption) ?_ ?_) | (first | (with_reducible exact Nat.le_refl _) | (with_reducible assumption) | omega | (simp; done) | (simp; omega))))))).mono ?_; rintro e w2 ⟨rfl, hB2⟩; obtain ⟨hc2, hf2⟩ := keep hB2; have hz2 := hB2.size; try simp at hz2
  go_wp2_with fail
  refine (sound_any _ _ _ _).mono ?_; rintro e w3 ⟨rfl, hB3⟩; obtain ⟨hc3, hf3⟩ := keep hB3; have hz3 := hB3.size; try simp at hz3
  go_wp2
  go_ret
  exact ⟨rfl, by (repeat' (first | (with_reducible exact Below.refl _ _) | (with_reducible assumption) | (with_reducible refine Below.alloc ?_ ?_ _) | (with_reducible refine Below.drew ?_) | (with_reducible refine drewN_below ?_ _) | (with_reducible refine Below.setCell ?_ ?_ _) | (with_reducible refine below_call (by with_reducible assumption) ?_ ?_) | (first | (with_reducible exact Nat.le_refl _) | (with_reducible assumption) | omega | (simp; done) | (simp; omega))))⟩
end Go.Proofs.YthamagnlpndnoaaDoor
