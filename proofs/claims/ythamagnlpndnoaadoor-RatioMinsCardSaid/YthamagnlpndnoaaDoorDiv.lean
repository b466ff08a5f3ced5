/- pergolaref1: gcd, Div, Lowest. -/
import Derived.Test.YthamagnlpndnoaaDoorBits
import Derived.Deep.QuietTactic
import Derived.BigQuiet
import Derived.BigGuardPart
import Derived.Deep.RegionHeld3
namespace Go.Proofs.YthamagnlpndnoaaDoor
open Go.RowKit

/-- The greatest number that divides both. -/
def gcdV (a b : Int) : Int := (Nat.gcd a.toNat b.toNat : Nat)
theorem gcdV_zero (a : Int) (h : 0 ≤ a) : gcdV a 0 = a := by unfold gcdV; simp; omega
theorem gcdV_step (a b : Int) (ha : 0 ≤ a) (hb : 0 < b) : gcdV b (a % b) = gcdV a b := by
  unfold gcdV
  obtain ⟨x, rfl⟩ := Int.eq_ofNat_of_zero_le ha
  obtain ⟨y, rfl⟩ := Int.eq_ofNat_of_zero_le (Int.le_of_lt hb)
  have e : ((x : Int) % (y : Int)).toNat = x % y := by omega
  rw [e]
  simp only [Int.toNat_natCast]
  rw [Nat.gcd_comm x y, Nat.gcd_rec y x, Nat.gcd_comm]
theorem gcdV_word (a b : Int) (ha : Word a) (hb : Word b) : Word (gcdV a b) := by
  unfold Word at *
  refine ⟨by unfold gcdV; omega, ?_⟩
  unfold gcdV
  by_cases h : a.toNat = 0
  · rw [h, Nat.gcd_zero_left]; omega
  · have := Nat.gcd_le_left b.toNat (Nat.pos_of_ne_zero h); omega

theorem below_drewN {B : Nat} {a w : World} (h : Below B a w) (n : Nat) : Below B a (w.drewN n) := ⟨h.os, h.tape, h.output, h.size, h.block⟩

set_option maxHeartbeats 400000 in
theorem gcd_any (a b : Int) (ha : Word a) (hb : Word b) (w : World) :
    Calls Tryd.prog 31 #[.int .u64 a, .int .u64 b] w fun e w' => e = .returned (.int .u64 (gcdV a b)) ∧ Below w.heap.size w w' := by
  go_enter Tryd.func31, Tryd.ntmps31
  go_wp2
  go_loopw [0, 1] (fun s t wr => ∃ x y : Int, Word x ∧ Word y ∧ s = .int .u64 x ∧ t = .int .u64 y ∧ gcdV x y = gcdV a b ∧ Below w.heap.size w wr) (fun _ t _ => (intOf t).toNat)
  case atStart => exact ⟨a, b, ha, hb, rfl, rfl, rfl, Below.refl _ _⟩
  case round =>
    obtain ⟨x, y, hx, hy, rfl, rfl, hg, hB⟩ := hrel
    by_cases hlt : 0 < y
    · have hs := gcdV_step x y hx.1 hlt
      have HG := Lib.hid hg; have HS := Lib.hid hs; clear hg hs
      have hx' := hx; have hy' := hy
      obtain ⟨x0, x1⟩ := hx; obtain ⟨y0, y1⟩ := hy
      have hne : (y == 0) = false := beq_eq_false_iff_ne.2 (by omega)
      have hm0 := Int.emod_nonneg x (show y ≠ 0 by omega)
      have hm1 := Int.emod_lt_of_pos x hlt
      go_wp2
      go_quiet (fail)
      go_wp2
      go_roundw
      case rel => exact ⟨y, x % y, hy', ⟨hm0, by omega⟩, rfl, rfl, by rw [HS.out, HG.out], below_drewN hB _⟩
      case measure => simp [intOf]; omega
    · have hy0 : y = 0 := by unfold Word at hy; omega
      subst hy0
      rw [gcdV_zero x hx.1] at hg
      have HG := Lib.hid hg; clear hg
      go_wp2
      go_ret
      exact ⟨ret_int HG.out, hB⟩
end Go.Proofs.YthamagnlpndnoaaDoor
