/- Package wide: size, Mul, Square, Add, each by what number it answers. -/
import Derived.Test.YthamagnlpndnoaaDoorBits
namespace Go.Proofs.YthamagnlpndnoaaDoor
open Go.RowKit

def absI (n : Int) : Int := if n < 0 then -n else n
theorem absI_word {n : Int} (h : Int64 n) : Word (absI n) := by unfold Int64 Word absI at *; split <;> omega
theorem absI_mul (n : Int) : absI n * absI n = n * n := by unfold absI; split <;> first | rfl | rw [Int.neg_mul_neg]

set_option maxHeartbeats 400000 in
theorem size_any (n : Int) (hn : Int64 n) (w : World) :
    Calls Tryd.prog 46 #[.int .i64 n] w fun e w' => e = .returned (.int .u64 (absI n)) ∧ w = w' := by
  obtain ⟨h1, h2⟩ := hn
  by_cases h : n < 0
  · have hv : IntKind.u64.wrap (-IntKind.u64.wrap n) = absI n := by rw [IntKind.wrap_u64, IntKind.wrap_u64, absI, if_pos h]; omega
    rw [← hv]; clear hv
    go_enter Tryd.func46, Tryd.ntmps46
    go_wp2
    go_ret
    exact ⟨rfl, rfl⟩
  · have hv : absI n = n := by simp [absI, h]
    rw [hv]; clear hv
    go_enter Tryd.func46, Tryd.ntmps46
    go_wp2
    go_ret
    exact ⟨rfl, rfl⟩

set_option maxHeartbeats 400000 in
theorem wmul_any (x y : Int) (hx : Word x) (hy : Word y) (w : World) :
    Calls Tryd.prog 19 #[.int .u64 x, .int .u64 y] w fun e w' => e = .returned (.agg #[.int .u64 (hiOf (x * y)), .int .u64 (loOf (x * y))]) ∧ Below w.heap.size w w' := by
  go_enter Tryd.func19, Tryd.ntmps19
  go_wp2_with (go_at_call 36; refine (mul64_any _ _ hx hy _).mono ?_; rintro e w' ⟨rfl, rfl⟩)
  exact bodyPost_ret (v := .agg #[.int .u64 (hiOf (x * y)), .int .u64 (loOf (x * y))]) (by simp [*, results, Tryd.results19, go_sem]) rfl ⟨rfl, by (repeat' (first | (with_reducible exact Below.refl _ _) | (with_reducible assumption) | (with_reducible refine Below.alloc ?_ ?_ _) | (with_reducible refine Below.drew ?_) | (with_reducible refine drewN_below ?_ _) | (with_reducible refine Below.setCell ?_ ?_ _) | (with_reducible refine below_call (by with_reducible assumption) ?_ ?_) | (first | (with_reducible exact Nat.le_refl _) | (with_reducible assumption) | omega | (simp; done) | (simp; omega))))⟩

set_option maxHeartbeats 400000 in
theorem wsquare_any (n : Int) (hn : Int64 n) (w : World) :
    Calls Tryd.prog 28 #[.int .i64 n] w fun e w' => e = .returned (.agg #[.int .u64 (hiOf (n * n)), .int .u64 (loOf (n * n))]) ∧ Below w.heap.size w w' := by
  have ha := absI_word hn
  rw [← absI_mul n]
  go_enter Tryd.func28, Tryd.ntmps28
  go_wp2_with (first | (go_at_call 46; refine (size_any _ hn _).mono ?_; rintro e w' ⟨rfl, rfl⟩) | (go_at_call 19; refine (wmul_any _ _ ha ha _).mono ?_; rintro e w' ⟨rfl, hB⟩; obtain ⟨hc, hf⟩ := keep hB; have hz := hB.size; try simp at hz))
  exact bodyPost_ret (v := .agg #[.int .u64 (hiOf (absI n * absI n)), .int .u64 (loOf (absI n * absI n))]) (by simp [*, results, Tryd.results28, go_sem]) rfl ⟨rfl, by (repeat' (first | (with_reducible exact Below.refl _ _) | (with_reducible assumption) | (with_reducible refine Below.alloc ?_ ?_ _) | (with_reducible refine Below.drew ?_) | (with_reducible refine drewN_below ?_ _) | (with_reducible refine Below.setCell ?_ ?_ _) | (with_reducible refine below_call (by with_reducible assumption) ?_ ?_) | (first | (with_reducible exact Nat.le_refl _) | (with_reducible assumption) | omega | (simp; done) | (simp; omega))))⟩

/-- The sum, and whether it is more than two words. -/
def overB (n : Int) : Bool := decide (340282366920938463463374607431768211456 ≤ n)

theorem sq_big {n : Int} (hn : Int64 n) : 0 ≤ n * n ∧ n * n ≤ 85070591730234615865843651857942052864 := by
  have h := mul_bd (M := 9223372036854775808) n n (by unfold Int64 at hn; omega) (by unfold Int64 at hn; omega)
  have h2 : 0 ≤ n * n := by rw [← absI_mul]; exact Int.mul_nonneg (absI_word hn).1 (absI_word hn).1
  omega
end Go.Proofs.YthamagnlpndnoaaDoor
