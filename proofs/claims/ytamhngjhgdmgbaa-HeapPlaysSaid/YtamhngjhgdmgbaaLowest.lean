/- pergolaref1: Lowest. -/
import Derived.Test.YtamhngjhgdmgbaaDiv2
namespace Go.Proofs.Ytamhngjhgdmgbaa
open Go.RowKit

theorem gcdV_pos {a b : Int} (ha : 0 < a) : 0 < gcdV a b := by
  unfold gcdV
  have := Nat.gcd_pos_of_pos_left b.toNat (show 0 < a.toNat by omega)
  omega
theorem quo_word {a b : Int} (ha : Word a) (hb : 0 < b) : Word (a / b) := by
  refine ⟨Int.ediv_nonneg ha.1 (Int.le_of_lt hb), ?_⟩
  have := Int.ediv_le_self (b := b) ha.1
  have := ha.2
  omega

/-- A fraction in lowest terms, as its three words. -/
def lowG (N d : Int) : Int := gcdV d (N % d)
theorem lowG_one (N : Int) : lowG N 1 = 1 := by unfold lowG gcdV; simp
end Go.Proofs.Ytamhngjhgdmgbaa
