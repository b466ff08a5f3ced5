/- pergolaref3: sum, Square, BoxDist; pergolaref1: Sub. -/
import Derived.Test.YtandehgdmefpaaaLowest
import Derived.Test.YtandehgdmefpaaaRMul
import Derived.Test.YtandehgdmefpaaaRef1A
import Derived.Test.YtandehgdmefpaaaRefPt
import Derived.Test.YtandehgdmefpaaaRefBox
import Derived.Test.YtandehgdmefpaaaPlaneB
namespace Go.Proofs.Ytandehgdmefpaaa
open Go.RowKit

theorem sq_bd {n : Int} (h : Int64 n) : 0 ≤ n * n ∧ n * n ≤ 85070591730234615865843651857942052864 := by
  unfold Int64 at h
  have h3 : 0 ≤ n * n := by rw [← absI_mul]; exact Int.mul_nonneg (by unfold absI; omega) (by unfold absI; omega)
  have := mul_bd (M := 9223372036854775808) n n (by omega) (by omega)
  omega

set_option maxHeartbeats 400000 in
theorem rsum_any (x y : Int) (hx : Int64 x) (hy : Int64 y) (w : World) :
    Calls Try.prog 52 #[.int .i64 x, .int .i64 y] w fun e w' => e = .returned (.agg #[.int .u64 (hiOf (x * x + y * y)), .int .u64 (loOf (x * x + y * y))]) ∧ Below w.heap.size w w' := by
  have bx := sq_bd hx; have b_y := sq_bd hy
  have hA := fun w => radd_any (hiOf (x * x)) (loOf (x * x)) (hiOf (y * y)) (loOf (y * y)) (hiOf_word _) (loOf_word _) (hiOf_word _) (loOf_word _) w
  rw [num_hl (by unfold Big; omega), num_hl (by unfold Big; omega)] at hA
  generalize overB (x * x + y * y) = ov at hA
  clear bx b_y
  go_enter Try.func52, Try.ntmps52
  go_wp2_with fail
  refine (rsquare_any _ hx _).mono ?_; rintro e w1 ⟨rfl, hB1⟩; obtain ⟨hc1, hf1⟩ := keep hB1; have hz1 := hB1.size; try simp at hz1
  go_wp2_with fail
  refine (rsquare_any _ hy _).mono ?_; rintro e w2 ⟨rfl, hB2⟩; obtain ⟨hc2, hf2⟩ := keep hB2; have hz2 := hB2.size; try simp at hz2
  go_wp2_with fail
  refine (hA _).mono ?_; rintro e w3 ⟨rfl, hB3⟩; obtain ⟨hc3, hf3⟩ := keep hB3; have hz3 := hB3.size; try simp at hz3
  go_wp2
  exact bodyPost_ret (v := .agg #[.int .u64 (hiOf (x * x + y * y)), .int .u64 (loOf (x * x + y * y))]) (by simp [*, results, Try.results52, go_sem]) rfl ⟨rfl, by (repeat' (first | (with_reducible exact Below.refl _ _) | (with_reducible assumption) | (with_reducible refine Below.alloc ?_ ?_ _) | (with_reducible refine Below.drew ?_) | (with_reducible refine Below.setCell ?_ ?_ _) | (with_reducible refine below_call (by with_reducible assumption) ?_ ?_) | (first | (with_reducible exact Nat.le_refl _) | (with_reducible assumption) | omega | (simp; done) | (simp; omega))))⟩

set_option maxHeartbeats 1000000 in
theorem rsq_any (ax ay bx b_y : Int) (w : World) :
    Calls Try.prog 34 #[.agg #[.int .i64 ax, .int .i64 ay], .agg #[.int .i64 bx, .int .i64 b_y]] w fun e w' => e = .returned (.agg #[.int .u64 (hiOf (sqN ax ay bx b_y)), .int .u64 (loOf (sqN ax ay bx b_y)), .int .u64 (sqD ax ay bx b_y)]) ∧ Below w.heap.size w w' := by
  cases ha : okB (ax, ay) <;> cases hb : okB (bx, b_y)
  case true.true =>
    have e1 : sqN ax ay bx b_y = (ax - bx) * (ax - bx) + (ay - b_y) * (ay - b_y) := by simp [sqN, ok2, ha, hb]
    have e2 : sqD ax ay bx b_y = 1 := by simp [sqD, ok2, ha, hb]
    rw [e1, e2]; clear e1 e2
    have h1 := ha; have h2 := hb
    rw [okB_iff] at h1 h2
    obtain ⟨⟨a1, a2⟩, a3, a4⟩ := h1
    obtain ⟨⟨b1, b2⟩, b3, b4⟩ := h2
    have i1 : Int64 (ax - bx) := by unfold Int64; omega
    have i2 : Int64 (ay - b_y) := by unfold Int64; omega
    go_enter Try.func34, Try.ntmps34
    go_wp2_with fail
    refine (point_any _ _ _).mono ?_; rintro e w1 ⟨rfl, hB1⟩; obtain ⟨hc1, hf1⟩ := keep hB1; have hz1 := hB1.size; try simp at hz1
    go_wp2_with fail
    refine (point_any _ _ _).mono ?_; rintro e w2 ⟨rfl, hB2⟩; obtain ⟨hc2, hf2⟩ := keep hB2; have hz2 := hB2.size; try simp at hz2
    go_wp2_with fail
    refine (rsum_any _ _ i1 i2 _).mono ?_; rintro e w3 ⟨rfl, hB3⟩; obtain ⟨hc3, hf3⟩ := keep hB3; have hz3 := hB3.size; try simp at hz3
    go_wp2_with fail
    refine (lowest1_any _ _ (hiOf_word _) (loOf_word _) _).mono ?_; rintro e w4 ⟨rfl, hB4⟩; obtain ⟨hc4, hf4⟩ := keep hB4; have hz4 := hB4.size; try simp at hz4
    go_wp2
    exact bodyPost_ret (v := .agg #[.int .u64 (hiOf ((ax - bx) * (ax - bx) + (ay - b_y) * (ay - b_y))), .int .u64 (loOf ((ax - bx) * (ax - bx) + (ay - b_y) * (ay - b_y))), .int .u64 1]) (by simp [*, results, Try.results34, go_sem]) rfl ⟨rfl, by (repeat' (first | (with_reducible exact Below.refl _ _) | (with_reducible assumption) | (with_reducible refine Below.alloc ?_ ?_ _) | (with_reducible refine Below.drew ?_) | (with_reducible refine Below.setCell ?_ ?_ _) | (with_reducible refine below_call (by with_reducible assumption) ?_ ?_) | (first | (with_reducible exact Nat.le_refl _) | (with_reducible assumption) | omega | (simp; done) | (simp; omega))))⟩
  all_goals
    have e1 : sqN ax ay bx b_y = 0 := by simp [sqN, ok2, ha, hb]
    have e2 : sqD ax ay bx b_y = 0 := by simp [sqD, ok2, ha, hb]
    rw [e1, e2]; clear e1 e2
    go_enter Try.func34, Try.ntmps34
    go_wp2_with (first | (go_at_call 13; refine (point_any _ _ _).mono ?_; rintro e w' ⟨rfl, hB⟩; obtain ⟨hc, hf⟩ := keep hB; have hz := hB.size; try simp at hz))
    exact bodyPost_ret (v := .agg #[.int .u64 0, .int .u64 0, .int .u64 0]) (by simp [*, results, Try.results34, go_sem]) rfl ⟨rfl, by (repeat' (first | (with_reducible exact Below.refl _ _) | (with_reducible assumption) | (with_reducible refine Below.alloc ?_ ?_ _) | (with_reducible refine Below.drew ?_) | (with_reducible refine Below.setCell ?_ ?_ _) | (with_reducible refine below_call (by with_reducible assumption) ?_ ?_) | (first | (with_reducible exact Nat.le_refl _) | (with_reducible assumption) | omega | (simp; done) | (simp; omega))))⟩

theorem gap_max (n lo hi : Int) : maxV (maxV (lo - n) (n - hi)) 0 = gapV n lo hi := by unfold maxV gapV; omega

set_option maxHeartbeats 1000000 in
theorem rboxDist_any (lx ly hx hy px py : Int) (w : World) :
    Calls Try.prog 41 #[.agg #[.int .i64 lx, .int .i64 ly, .int .i64 hx, .int .i64 hy], .agg #[.int .i64 px, .int .i64 py]] w fun e w' => e = .returned (.agg #[.int .u64 (hiOf (distN lx ly hx hy px py)), .int .u64 (loOf (distN lx ly hx hy px py)), .int .u64 (distD lx ly hx hy px py)]) ∧ Below w.heap.size w w' := by
  cases hb : boxB (lx, ly, hx, hy) <;> cases hp : okB (px, py)
  case true.true =>
    have e1 : distN lx ly hx hy px py = gapV px lx hx * gapV px lx hx + gapV py ly hy * gapV py ly hy := by simp [distN, distB, hb, hp]
    have e2 : distD lx ly hx hy px py = 1 := by simp [distD, distB, hb, hp]
    rw [e1, e2]; clear e1 e2
    have hb' := hb
    have hp' := hp
    rw [boxB_iff, okB_iff, okB_iff] at hb'
    rw [okB_iff] at hp'
    obtain ⟨⟨⟨a1, a2⟩, a3, a4⟩, ⟨⟨b1, b2⟩, b3, b4⟩, c1, c2⟩ := hb'
    obtain ⟨⟨d1, d2⟩, d3, d4⟩ := hp'
    have g1 := gapV_bd px lx hx d1 d2 a1 a2 b1 b2
    have g2 := gapV_bd py ly hy d3 d4 a3 a4 b3 b4
    have i1 : Int64 (gapV px lx hx) := by unfold Int64; omega
    have i2 : Int64 (gapV py ly hy) := by unfold Int64; omega
    have m1 := gap_max px lx hx
    have m2 := gap_max py ly hy
    have mx : ∀ x y : Int, (if x < y then y else x) = maxV x y := fun _ _ => rfl
    have hcz : boxCode lx ly hx hy = 0 := by rw [boxB_code] at hb; simpa using hb
    clear g1 g2
    go_enter Try.func41, Try.ntmps41
    go_wp2_with fail
    refine (rcheckBox_any _ _ _ _ _).mono ?_; rintro e w1 ⟨rfl, hB1⟩; obtain ⟨hc1, hf1⟩ := keep hB1; have hz1 := hB1.size; try simp at hz1
    go_wp2_with fail
    refine (point_any _ _ _).mono ?_; rintro e w2 ⟨rfl, hB2⟩; obtain ⟨hc2, hf2⟩ := keep hB2; have hz2 := hB2.size; try simp at hz2
    go_wp2_with fail
    refine (rsum_any _ _ i1 i2 _).mono ?_; rintro e w3 ⟨rfl, hB3⟩; obtain ⟨hc3, hf3⟩ := keep hB3; have hz3 := hB3.size; try simp at hz3
    go_wp2_with fail
    refine (lowest1_any _ _ (hiOf_word _) (loOf_word _) _).mono ?_; rintro e w4 ⟨rfl, hB4⟩; obtain ⟨hc4, hf4⟩ := keep hB4; have hz4 := hB4.size; try simp at hz4
    go_wp2
    exact bodyPost_ret (v := .agg #[.int .u64 (hiOf (gapV px lx hx * gapV px lx hx + gapV py ly hy * gapV py ly hy)), .int .u64 (loOf (gapV px lx hx * gapV px lx hx + gapV py ly hy * gapV py ly hy)), .int .u64 1]) (by simp [*, results, Try.results41, go_sem]) rfl ⟨rfl, by (repeat' (first | (with_reducible exact Below.refl _ _) | (with_reducible assumption) | (with_reducible refine Below.alloc ?_ ?_ _) | (with_reducible refine Below.drew ?_) | (with_reducible refine Below.setCell ?_ ?_ _) | (with_reducible refine below_call (by with_reducible assumption) ?_ ?_) | (first | (with_reducible exact Nat.le_refl _) | (with_reducible assumption) | omega | (simp; done) | (simp; omega))))⟩
  all_goals
    have e1 : distN lx ly hx hy px py = 0 := by simp [distN, distB, hb, hp]
    have e2 : distD lx ly hx hy px py = 0 := by simp [distD, distB, hb, hp]
    have hcz := hb
    rw [boxB_code] at hcz
    simp at hcz
    rw [e1, e2]; clear e1 e2
    go_enter Try.func41, Try.ntmps41
    go_wp2_with (first | (go_at_call 15; refine (rcheckBox_any _ _ _ _ _).mono ?_; rintro e w' ⟨rfl, hB⟩; obtain ⟨hc, hf⟩ := keep hB; have hz := hB.size; try simp at hz) | (go_at_call 13; refine (point_any _ _ _).mono ?_; rintro e w' ⟨rfl, hB⟩; obtain ⟨hc, hf⟩ := keep hB; have hz := hB.size; try simp at hz))
    exact bodyPost_ret (v := .agg #[.int .u64 0, .int .u64 0, .int .u64 0]) (by simp [*, results, Try.results41, go_sem]) rfl ⟨rfl, by (repeat' (first | (with_reducible exact Below.refl _ _) | (with_reducible assumption) | (with_reducible refine Below.alloc ?_ ?_ _) | (with_reducible refine Below.drew ?_) | (with_reducible refine Below.setCell ?_ ?_ _) | (with_reducible refine below_call (by with_reducible assumption) ?_ ?_) | (first | (with_reducible exact Nat.le_refl _) | (with_reducible assumption) | omega | (simp; done) | (simp; omega))))⟩
end Go.Proofs.Ytandehgdmefpaaa
