/- Package wide: size, Mul, Square, Add, each by what number it answers. -/
import Derived.Test.YtpmnghobcciiaaaDoorBits
namespace Go.Proofs.YtpmnghobcciiaaaDoor
open Go.RowKit

def absI (n : Int) : Int := if n < 0 then -n else n
theorem absI_word {n : Int} (h : Int64 n) : Word (absI n) := by unfold Int64 Word absI at *; split <;> omega
theorem absI_mul (n : Int) : absI n * absI n = n * n := by unfold absI; split <;> first | rfl | rw [Int.neg_mul_neg]

set_option maxHeartbeats 400000 in
theorem size_any (n : Int) (hn : Int64 n) (w : World) :
    Calls Tryd.prog 33 #[.int .i64 n] w fun e w' => e = .returned (.int .u64 (absI n)) ∧ w = w' := by
  obtain ⟨h1, h2⟩ := hn
  by_cases h : n < 0
  · have hv : IntKind.u64.wrap (-IntKind.u64.wrap n) = absI n := by rw [IntKind.wrap_u64, IntKind.wrap_u64, absI, if_pos h]; omega
    rw [← hv]; clear hv
    go_enter Tryd.func33, Tryd.ntmps33
    go_wp2
    go_ret
    exact ⟨rfl, rfl⟩
  · have hv : absI n = n := by simp [absI, h]
    rw [hv]; clear hv
    go_enter Tryd.func33, Tryd.ntmps33
    go_wp2
    go_ret
    exact ⟨rfl, rfl⟩

set_option maxHeartbeats 400000 in
theorem wmul_any (x y : Int) (hx : Word x) (hy : Word y) (w : World) :
    Calls Tryd.prog 14 #[.int .u64 x, .int .u64 y] w fun e w' => e = .returned (.agg #[.int .u64 (hiOf (x * y)), .int .u64 (loOf (x * y))]) ∧ Below w.heap.size w w' := by
  go_enter Tryd.func14, Tryd.ntmps14
  go_wp2_with (go_at_call 36; refine (mul64_any _ _ hx hy _).mono ?_; rintro e w' ⟨rfl, rfl⟩)
  exact bodyPost_ret (v := .agg #[.int .u64 (hiOf (x * y)), .int .u64 (loOf (x * y))]) (by simp [*, results, Tryd.results14, go_sem]) rfl ⟨rfl, by (repeat' (first | (with_reducible exact Below.refl _ _) | (with_reducible assumption) | (with_reducible refine Below.alloc ?_ ?_ _) | (with_reducible refine Below.drew ?_) | (with_reducible refine drewN_below ?_ _) | (with_reducible refine Below.setCell ?_ ?_ _) | (with_reducible refine below_call (by with_reducible assumption) ?_ ?_) | (first | (with_reducible exact Nat.le_refl _) | (with_reducible assumption) | omega | (simp; done) | (simp; omega))))⟩

set_option maxHeartbeats 400000 in
theorem wsquare_any (n : Int) (hn : Int64 n) (w : World) :
    Calls Tryd.prog 11 #[.int .i64 n] w fun e w' => e = .returned (.agg #[.int .u64 (hiOf (n * n)), .int .u64 (loOf (n * n))]) ∧ Below w.heap.size w w' := by
  have ha := absI_word hn
  rw [← absI_mul n]
  go_enter Tryd.func11, Tryd.ntmps11
  go_wp2_with (first | (go_at_call 33; refine (size_any _ hn _).mono ?_; rintro e w' ⟨rfl, rfl⟩) | (go_at_call 14; refine (wmul_any _ _ ha ha _).mono ?_; rintro e w' ⟨rfl, hB⟩; obtain ⟨hc, hf⟩ := keep hB; have hz := hB.size; try simp at hz))
  exact bodyPost_ret (v := .agg #[.int .u64 (hiOf (absI n * absI n)), .int .u64 (loOf (absI n * absI n))]) (by simp [*, results, Tryd.results11, go_sem]) rfl ⟨rfl, by (repeat' (first | (with_reducible exact Below.refl _ _) | (with_reducible assumption) | (with_reducible refine Below.alloc ?_ ?_ _) | (with_reducible refine Below.drew ?_) | (with_reducible refine drewN_below ?_ _) | (with_reducible refine Below.setCell ?_ ?_ _) | (with_reducible refine below_call (by with_reducible assumption) ?_ ?_) | (first | (with_reducible exact Nat.le_refl _) | (with_reducible assumption) | omega | (simp; done) | (simp; omega))))⟩

/-- The sum, and whether it is more than two words. -/
def overB (n : Int) : Bool := decide (340282366920938463463374607431768211456 ≤ n)

set_option maxHeartbeats 400000 in
theorem wadd_any (ah al bh bl : Int) (h1 : Word ah) (h2 : Word al) (h3 : Word bh) (h4 : Word bl) (w : World) :
    Calls Tryd.prog 16 #[.agg #[.int .u64 ah, .int .u64 al], .agg #[.int .u64 bh, .int .u64 bl]] w fun e w' => e = .returned (.tuple #[.agg #[.int .u64 (hiOf (num ah al + num bh bl)), .int .u64 (loOf (num ah al + num bh bl))], .bool (overB (num ah al + num bh bl))]) ∧ Below w.heap.size w w' := by
  obtain ⟨a1, a2⟩ := h1; obtain ⟨b1, b2⟩ := h2; obtain ⟨c1, c2⟩ := h3; obtain ⟨d1, d2⟩ := h4
  have k0 : 0 ≤ (al + bl) / 18446744073709551616 := by omega
  have k1 : (al + bl) / 18446744073709551616 ≤ 1 := by omega
  have e1 : hiOf (num ah al + num bh bl) = (ah + bh + (al + bl) / 18446744073709551616) % 18446744073709551616 := by unfold hiOf num; omega
  have e2 : loOf (num ah al + num bh bl) = (al + bl) % 18446744073709551616 := by unfold loOf num; omega
  have e3 : overB (num ah al + num bh bl) = ((ah + bh + (al + bl) / 18446744073709551616) / 18446744073709551616 != 0) := by
    unfold overB num
    by_cases h : (ah + bh + (al + bl) / 18446744073709551616) / 18446744073709551616 = 0
    · rw [bne_eq_false_iff_eq.2 h]; simp; omega
    · rw [bne_iff_ne.2 h]; simp; omega
  rw [e1, e2, e3]
  clear e1 e2 e3
  go_enter Tryd.func16, Tryd.ntmps16
  go_wp2_with (first | simp only [add64_0 al bl b1 d1] | simp only [add64 ah bh _ a1 c1 k0 k1])
  refine bodyPost_ret (v := .tuple #[.agg #[.int .u64 ((ah + bh + (al + bl) / 18446744073709551616) % 18446744073709551616), .int .u64 ((al + bl) % 18446744073709551616)], .bool ((ah + bh + (al + bl) / 18446744073709551616) / 18446744073709551616 != 0)]) ?_ rfl ⟨rfl, by (repeat' (first | (with_reducible exact Below.refl _ _) | (with_reducible assumption) | (with_reducible refine Below.alloc ?_ ?_ _) | (with_reducible refine Below.drew ?_) | (with_reducible refine drewN_below ?_ _) | (with_reducible refine Below.setCell ?_ ?_ _) | (with_reducible refine below_call (by with_reducible assumption) ?_ ?_) | (first | (with_reducible exact Nat.le_refl _) | (with_reducible assumption) | omega | (simp; done) | (simp; omega))))⟩
  simp [*, results, Tryd.results16, go_sem]
theorem wadd_big (m n : Int) (hm : Big m) (hn : Big n) (w : World) :
    Calls Tryd.prog 16 #[.agg #[.int .u64 (hiOf m), .int .u64 (loOf m)], .agg #[.int .u64 (hiOf n), .int .u64 (loOf n)]] w fun e w' => e = .returned (.tuple #[.agg #[.int .u64 (hiOf (m + n)), .int .u64 (loOf (m + n))], .bool (overB (m + n))]) ∧ Below w.heap.size w w' := by
  have h := wadd_any (hiOf m) (loOf m) (hiOf n) (loOf n) (hiOf_word _) (loOf_word _) (hiOf_word _) (loOf_word _) w
  rw [num_hl hm, num_hl hn] at h
  exact h
theorem sq_big {n : Int} (hn : Int64 n) : 0 ≤ n * n ∧ n * n ≤ 85070591730234615865843651857942052864 := by
  have h := mul_bd (M := 9223372036854775808) n n (by unfold Int64 at hn; omega) (by unfold Int64 at hn; omega)
  have h2 : 0 ≤ n * n := by rw [← absI_mul]; exact Int.mul_nonneg (absI_word hn).1 (absI_word hn).1
  omega
end Go.Proofs.YtpmnghobcciiaaaDoor
