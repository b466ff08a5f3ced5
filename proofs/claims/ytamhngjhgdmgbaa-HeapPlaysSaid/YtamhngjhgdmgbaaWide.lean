/- Package wide: size, Mul, Square, Add, each by what number it answers. -/
import Derived.Test.YtamhngjhgdmgbaaBits
namespace Go.Proofs.Ytamhngjhgdmgbaa
open Go.RowKit

def absI (n : Int) : Int := if n < 0 then -n else n
theorem absI_word {n : Int} (h : Int64 n) : Word (absI n) := by unfold Int64 Word absI at *; split <;> omega
theorem absI_mul (n : Int) : absI n * absI n = n * n := by unfold absI; split <;> first | rfl | rw [Int.neg_mul_neg]

set_option maxHeartbeats 400000 in
theorem wmul_any (x y : Int) (hx : Word x) (hy : Word y) (w : World) :
    Calls Try.prog 44 #[.int .u64 x, .int .u64 y] w fun e w' => e = .returned (.agg #[.int .u64 (hiOf (x * y)), .int .u64 (loOf (x * y))]) ∧ Below w.heap.size w w' := by
  go_enter Try.func44, Try.ntmps44
  go_wp2_with (go_at_call 47; refine (mul64_any _ _ hx hy _).mono ?_; rintro e w' ⟨rfl, rfl⟩)
  exact bodyPost_ret (v := .agg #[.int .u64 (hiOf (x * y)), .int .u64 (loOf (x * y))]) (by simp [*, results, Try.results44, go_sem]) rfl ⟨rfl, by (repeat' (first | (with_reducible exact Below.refl _ _) | (with_reducible assumption) | (with_reducible refine Below.alloc ?_ ?_ _) | (with_reducible refine Below.drew ?_) | (with_reducible refine drewN_below ?_ _) | (with_reducible refine Below.setCell ?_ ?_ _) | (with_reducible refine below_call (by with_reducible assumption) ?_ ?_) | (first | (with_reducible exact Nat.le_refl _) | (with_reducible assumption) | omega | (simp; done) | (simp; omega))))⟩

/-- The sum, and whether it is more than two words. -/
def overB (n : Int) : Bool := decide (340282366920938463463374607431768211456 ≤ n)

theorem sq_big {n : Int} (hn : Int64 n) : 0 ≤ n * n ∧ n * n ≤ 85070591730234615865843651857942052864 := by
  have h := mul_bd (M := 9223372036854775808) n n (by unfold Int64 at hn; omega) (by unfold Int64 at hn; omega)
  have h2 : 0 ≤ n * n := by rw [← absI_mul]; exact Int.mul_nonneg (absI_word hn).1 (absI_word hn).1
  omega
end Go.Proofs.Ytamhngjhgdmgbaa
