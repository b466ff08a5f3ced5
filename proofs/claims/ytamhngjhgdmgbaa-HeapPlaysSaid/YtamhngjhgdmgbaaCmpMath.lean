/- Distances stand in one order. Plain facts; no function of the program is named here. -/
import Derived.Test.YtamhngjhgdmgbaaRTimes
import Derived.Test.YtamhngjhgdmgbaaLowMath
namespace Go.Proofs.Ytamhngjhgdmgbaa
open Go.RowKit

/-- Fractions compared; one without a denominator is none, and behind all. -/
def cmpN (N d M e : Int) : Int := if d = 0 then (if e = 0 then 0 else 1) else if e = 0 then -1 else cmpV (N * e) (M * d)
theorem cmpD_cmpN (ah al ad bh bl bd : Int) : cmpD ah al ad bh bl bd = cmpN (num ah al) ad (num bh bl) bd := rfl
theorem cmpV_neg (x y : Int) : cmpV y x = -cmpV x y := by unfold cmpV; omega
theorem cmpV_bd (x y : Int) : -1 ≤ cmpV x y ∧ cmpV x y ≤ 1 := by unfold cmpV; omega
theorem cmpV_le {x y : Int} : cmpV x y ≤ 0 ↔ x ≤ y := by unfold cmpV; omega
theorem cmpV_lt {x y : Int} : cmpV x y < 0 ↔ x < y := by unfold cmpV; omega
theorem cmpV_zero {x y : Int} : cmpV x y = 0 ↔ x = y := by unfold cmpV; omega
theorem cmpN_neg (N d M e : Int) : cmpN M e N d = -cmpN N d M e := by
  unfold cmpN
  by_cases hd : d = 0 <;> by_cases he : e = 0 <;> simp [hd, he, cmpV_neg (N * e) (M * d)]
theorem cmpN_self (N d : Int) : cmpN N d N d = 0 := by
  unfold cmpN
  by_cases hd : d = 0
  · simp [hd]
  · rw [if_neg hd, if_neg hd]; exact cmpV_zero.2 rfl
theorem cmpN_bd (N d M e : Int) : -1 ≤ cmpN N d M e ∧ cmpN N d M e ≤ 1 := by
  unfold cmpN
  split
  · split <;> omega
  · split
    · omega
    · exact cmpV_bd _ _

theorem frac_le {a b c p q r : Int} (hp : 0 < p) (hq : 0 < q) (hr : 0 < r) (h1 : a * q ≤ b * p) (h2 : b * r ≤ c * q) : a * r ≤ c * p := by
  refine Int.le_of_mul_le_mul_right ?_ hq
  have e1 := Int.mul_le_mul_of_nonneg_right h1 (Int.le_of_lt hr)
  have e2 := Int.mul_le_mul_of_nonneg_right h2 (Int.le_of_lt hp)
  rw [Int.mul_right_comm a r q, Int.mul_right_comm c p q]
  rw [Int.mul_right_comm b p r] at e1
  omega
theorem frac_lt {a b c p q r : Int} (hp : 0 < p) (hq : 0 < q) (hr : 0 < r) (h1 : a * q ≤ b * p) (h2 : b * r ≤ c * q) (h : a * q < b * p ∨ b * r < c * q) : a * r < c * p := by
  refine Int.lt_of_mul_lt_mul_right (a := q) ?_ (Int.le_of_lt hq)
  have e1 := Int.mul_le_mul_of_nonneg_right h1 (Int.le_of_lt hr)
  have e2 := Int.mul_le_mul_of_nonneg_right h2 (Int.le_of_lt hp)
  rw [Int.mul_right_comm a r q, Int.mul_right_comm c p q]
  rw [Int.mul_right_comm b p r] at e1
  rcases h with h | h
  · have := Int.mul_lt_mul_of_pos_right h hr
    rw [Int.mul_right_comm b p r] at this
    omega
  · have := Int.mul_lt_mul_of_pos_right h hp
    omega

theorem cmpN_trans {N d M e L f : Int} (hd : 0 ≤ d) (he : 0 ≤ e) (hf : 0 ≤ f) (h1 : cmpN N d M e ≤ 0) (h2 : cmpN M e L f ≤ 0) :
    cmpN N d L f ≤ 0 ∧ (cmpN N d M e < 0 ∨ cmpN M e L f < 0 → cmpN N d L f < 0) := by
  unfold cmpN at *
  by_cases zd : d = 0 <;> by_cases ze : e = 0 <;> by_cases zf : f = 0 <;> simp only [zd, ze, zf, if_true, if_false] at h1 h2 ⊢
  all_goals try (first | omega | (exfalso; omega))
  · rw [cmpV_le] at h1 h2
    refine ⟨cmpV_le.2 (frac_le (by omega) (by omega) (by omega) h1 h2), fun h => ?_⟩
    rw [cmpV_lt, cmpV_lt] at h
    exact cmpV_lt.2 (frac_lt (by omega) (by omega) (by omega) h1 h2 h)
end Go.Proofs.Ytamhngjhgdmgbaa
