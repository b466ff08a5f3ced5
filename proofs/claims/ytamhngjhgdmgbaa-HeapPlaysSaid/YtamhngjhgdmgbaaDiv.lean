/- pergolaref1: gcd, Div, Lowest. -/
import Derived.Test.YtamhngjhgdmgbaaBits
import Derived.Deep.QuietTactic
import Derived.BigQuiet
import Derived.BigGuardPart
import Derived.Deep.RegionHeld3
namespace Go.Proofs.Ytamhngjhgdmgbaa
open Go.RowKit

/-- The greatest number that divides both. -/
def gcdV (a b : Int) : Int := (Nat.gcd a.toNat b.toNat : Nat)
theorem gcdV_zero (a : Int) (h : 0 ≤ a) : gcdV a 0 = a := by unfold gcdV; simp; omega
theorem gcdV_step (a b : Int) (ha : 0 ≤ a) (hb : 0 < b) : gcdV b (a % b) = gcdV a b := by
  unfold gcdV
  obtain ⟨x, rfl⟩ := Int.eq_ofNat_of_zero_le ha
  obtain ⟨y, rfl⟩ := Int.eq_ofNat_of_zero_le (Int.le_of_lt hb)
  have e : ((x : Int) % (y : Int)).toNat = x % y := by omega
  rw [e]
  simp only [Int.toNat_natCast]
  rw [Nat.gcd_comm x y, Nat.gcd_rec y x, Nat.gcd_comm]
theorem gcdV_word (a b : Int) (ha : Word a) (hb : Word b) : Word (gcdV a b) := by
  unfold Word at *
  refine ⟨by unfold gcdV; omega, ?_⟩
  unfold gcdV
  by_cases h : a.toNat = 0
  · rw [h, Nat.gcd_zero_left]; omega
  · have := Nat.gcd_le_left b.toNat (Nat.pos_of_ne_zero h); omega

theorem below_drewN {B : Nat} {a w : World} (h : Below B a w) (n : Nat) : Below B a (w.drewN n) := ⟨h.os, h.tape, h.output, h.size, h.block⟩

end Go.Proofs.Ytamhngjhgdmgbaa
