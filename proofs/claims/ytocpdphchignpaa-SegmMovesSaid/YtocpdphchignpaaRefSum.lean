/- pergolaref3: sum, Square, BoxDist; pergolaref1: Sub. -/
import Derived.Test.YtocpdphchignpaaLowest
import Derived.Test.YtocpdphchignpaaRMul
import Derived.Test.YtocpdphchignpaaRef1A
import Derived.Test.YtocpdphchignpaaRefPt
import Derived.Test.YtocpdphchignpaaRefBox
import Derived.Test.YtocpdphchignpaaPlaneB
namespace Go.Proofs.Ytocpdphchignpaa
open Go.RowKit

theorem sq_bd {n : Int} (h : Int64 n) : 0 ≤ n * n ∧ n * n ≤ 85070591730234615865843651857942052864 := by
  unfold Int64 at h
  have h3 : 0 ≤ n * n := by rw [← absI_mul]; exact Int.mul_nonneg (by unfold absI; omega) (by unfold absI; omega)
  have := mul_bd (M := 9223372036854775808) n n (by omega) (by omega)
  omega

set_option maxHeartbeats 400000 in
theorem rsum_any (x y : Int) (hx : Int64 x) (hy : Int64 y) (w : World) :
    Calls Try.prog 39 #[.int .i64 x, .int .i64 y] w fun e w' => e = .returned (.agg #[.int .u64 (hiOf (x * x + y * y)), .int .u64 (loOf (x * x + y * y))]) ∧ Below w.heap.size w w' := by
  have bx := sq_bd hx; have b_y := sq_bd hy
  have hA := fun w => radd_any (hiOf (x * x)) (loOf (x * x)) (hiOf (y * y)) (loOf (y * y)) (hiOf_word _) (loOf_word _) (hiOf_word _) (loOf_word _) w
  rw [num_hl (by unfold Big; omega), num_hl (by unfold Big; omega)] at hA
  generalize overB (x * x + y * y) = ov at hA
  clear bx b_y
  go_enter Try.func39, Try.ntmps39
  go_wp2_with fail
  refine (rsquare_any _ hx _).mono ?_; rintro e w1 ⟨rfl, hB1⟩; obtain ⟨hc1, hf1⟩ := keep hB1; have hz1 := hB1.size; try simp at hz1
  go_wp2_with fail
  refine (rsquare_any _ hy _).mono ?_; rintro e w2 ⟨rfl, hB2⟩; obtain ⟨hc2, hf2⟩ := keep hB2; have hz2 := hB2.size; try simp at hz2
  go_wp2_with fail
  refine (hA _).mono ?_; rintro e w3 ⟨rfl, hB3⟩; obtain ⟨hc3, hf3⟩ := keep hB3; have hz3 := hB3.size; try simp at hz3
  go_wp2
  exact bodyPost_ret (v := .agg #[.int .u64 (hiOf (x * x + y * y)), .int .u64 (loOf (x * x + y * y))]) (by simp [*, results, Try.results39, go_sem]) rfl ⟨rfl, by (repeat' (first | (with_reducible exact Below.refl _ _) | (with_reducible assumption) | (with_reducible refine Below.alloc ?_ ?_ _) | (with_reducible refine Below.drew ?_) | (with_reducible refine Below.setCell ?_ ?_ _) | (with_reducible refine below_call (by with_reducible assumption) ?_ ?_) | (first | (with_reducible exact Nat.le_refl _) | (with_reducible assumption) | omega | (simp; done) | (simp; omega))))⟩

set_option maxHeartbeats 1000000 in
theorem rsq_any (ax ay bx b_y : Int) (w : World) :
    Calls Try.prog 17 #[.agg #[.int .i64 ax, .int .i64 ay], .agg #[.int .i64 bx, .int .i64 b_y]] w fun e w' => e = .returned (.agg #[.int .u64 (hiOf (sqN ax ay bx b_y)), .int .u64 (loOf (sqN ax ay bx b_y)), .int .u64 (sqD ax ay bx b_y)]) ∧ Below w.heap.size w w' := by
  cases ha : okB (ax, ay) <;> cases hb : okB (bx, b_y)
  case true.true =>
    have e1 : sqN ax ay bx b_y = (ax - bx) * (ax - bx) + (ay - b_y) * (ay - b_y) := by simp [sqN, ok2, ha, hb]
    have e2 : sqD ax ay bx b_y = 1 := by simp [sqD, ok2, ha, hb]
    rw [e1, e2]; clear e1 e2
    have h1 := ha; have h2 := hb
    rw [okB_iff] at h1 h2
    obtain ⟨⟨a1, a2⟩, a3, a4⟩ := h1
    obtain ⟨⟨b1, b2⟩, b3, b4⟩ := h2
    have i1 : Int64 (ax - bx) := by unfold Int64; omega
    have i2 : Int64 (ay - b_y) := by unfold Int64; omega
    go_enter Try.func17, Try.ntmps17
    go_wp2_with fail
    refine (point_any _ _ _).mono ?_; rintro e w1 ⟨rfl, hB1⟩; obtain ⟨hc1, hf1⟩ := keep hB1; have hz1 := hB1.size; try simp at hz1
    go_wp2_with fail
    refine (point_any _ _ _).mono ?_; rintro e w2 ⟨rfl, hB2⟩; obtain ⟨hc2, hf2⟩ := keep hB2; have hz2 := hB2.size; try simp at hz2
    go_wp2_with fail
    refine (rsum_any _ _ i1 i2 _).mono ?_; rintro e w3 ⟨rfl, hB3⟩; obtain ⟨hc3, hf3⟩ := keep hB3; have hz3 := hB3.size; try simp at hz3
    go_wp2_with fail
    refine (lowest1_any _ _ (hiOf_word _) (loOf_word _) _).mono ?_; rintro e w4 ⟨rfl, hB4⟩; obtain ⟨hc4, hf4⟩ := keep hB4; have hz4 := hB4.size; try simp at hz4
    go_wp2
    exact bodyPost_ret (v := .agg #[.int .u64 (hiOf ((ax - bx) * (ax - bx) + (ay - b_y) * (ay - b_y))), .int .u64 (loOf ((ax - bx) * (ax - bx) + (ay - b_y) * (ay - b_y))), .int .u64 1]) (by simp [*, results, Try.results17, go_sem]) rfl ⟨rfl, by (repeat' (first | (with_reducible exact Below.refl _ _) | (with_reducible assumption) | (with_reducible refine Below.alloc ?_ ?_ _) | (with_reducible refine Below.drew ?_) | (with_reducible refine Below.setCell ?_ ?_ _) | (with_reducible refine below_call (by with_reducible assumption) ?_ ?_) | (first | (with_reducible exact Nat.le_refl _) | (with_reducible assumption) | omega | (simp; done) | (simp; omega))))⟩
  all_goals
    have e1 : sqN ax ay bx b_y = 0 := by simp [sqN, ok2, ha, hb]
    have e2 : sqD ax ay bx b_y = 0 := by simp [sqD, ok2, ha, hb]
    rw [e1, e2]; clear e1 e2
    go_enter Try.func17, Try.ntmps17
    go_wp2_with (first | (go_at_call 15; refine (point_any _ _ _).mono ?_; rintro e w' ⟨rfl, hB⟩; obtain ⟨hc, hf⟩ := keep hB; have hz := hB.size; try simp at hz))
    exact bodyPost_ret (v := .agg #[.int .u64 0, .int .u64 0, .int .u64 0]) (by simp [*, results, Try.results17, go_sem]) rfl ⟨rfl, by (repeat' (first | (with_reducible exact Below.refl _ _) | (with_reducible assumption) | (with_reducible refine Below.alloc ?_ ?_ _) | (with_reducible refine Below.drew ?_) | (with_reducible refine Below.setCell ?_ ?_ _) | (with_reducible refine below_call (by with_reducible assumption) ?_ ?_) | (first | (with_reducible exact Nat.le_refl _) | (with_reducible assumption) | omega | (simp; done) | (simp; omega))))⟩


end Go.Proofs.Ytocpdphchignpaa
