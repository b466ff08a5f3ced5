/- pergolalaw3.u; '==' on wide.U; boxes that hold each other. -/
import Derived.Test.YtandehgdmefpaaaGrow
import Derived.Test.YtandehgdmefpaaaRef1A
namespace Go.Proofs.Ytandehgdmefpaaa
open Go.RowKit

set_option maxRecDepth 100000 in
@[go_sem ↓] theorem eql_wu (a b c d : Int) (w : World) : (binOp .eql 53 (.agg #[.int .u64 a, .int .u64 b]) (.agg #[.int .u64 c, .int .u64 d])).run Try.prog w = .ok (.bool (eq2 a b c d)) w := by
  unfold eq2
  by_cases h1 : a = c <;> by_cases h2 : b = d <;> simp [go_sem, h1, h2]

set_option maxHeartbeats 400000 in
theorem u_any (h l : Int) (w : World) :
    Calls Try.prog 26 #[.agg #[.int .u64 h, .int .u64 l]] w fun e w' => e = .returned (.agg #[.int .u64 h, .int .u64 l]) ∧ Below w.heap.size w w' := by
  go_enter Try.func26, Try.ntmps26
  go_wp2
  exact bodyPost_ret (v := .agg #[.int .u64 h, .int .u64 l]) (by simp [*, results, Try.results26, go_sem]) rfl ⟨rfl, by (repeat' (first | (with_reducible exact Below.refl _ _) | (with_reducible assumption) | (with_reducible refine Below.alloc ?_ ?_ _) | (with_reducible refine Below.drew ?_) | (with_reducible refine Below.setCell ?_ ?_ _) | (with_reducible refine below_call (by with_reducible assumption) ?_ ?_) | (first | (with_reducible exact Nat.le_refl _) | (with_reducible assumption) | omega | (simp; done) | (simp; omega))))⟩

theorem radd_big (m n : Int) (hm : Big m) (hn : Big n) (w : World) :
    Calls Try.prog 22 #[.agg #[.int .u64 (hiOf m), .int .u64 (loOf m)], .agg #[.int .u64 (hiOf n), .int .u64 (loOf n)]] w fun e w' => e = .returned (.tuple #[.agg #[.int .u64 (hiOf (m + n)), .int .u64 (loOf (m + n))], .bool (overB (m + n))]) ∧ Below w.heap.size w w' := by
  have h := radd_any (hiOf m) (loOf m) (hiOf n) (loOf n) (hiOf_word _) (loOf_word _) (hiOf_word _) (loOf_word _) w
  rw [num_hl hm, num_hl hn] at h
  exact h
theorem rcompare_big (m n : Int) (hm : Big m) (hn : Big n) (w : World) :
    Calls Try.prog 29 #[.agg #[.int .u64 (hiOf m), .int .u64 (loOf m)], .agg #[.int .u64 (hiOf n), .int .u64 (loOf n)]] w fun e w' => e = .returned (.int .i64 (cmpV m n)) ∧ Below w.heap.size w w' := by
  have h := rcompare_any (hiOf m) (loOf m) (hiOf n) (loOf n) (hiOf_word _) (loOf_word _) (hiOf_word _) (loOf_word _) w
  rw [num_hl hm, num_hl hn] at h
  exact h

theorem uni_box {b c : B4} (hb : boxB b = true) (hc : boxB c = true) : boxB (uni b c) = true := by
  obtain ⟨b1, b2, b3, b4⟩ := b; obtain ⟨c1, c2, c3, c4⟩ := c
  rw [boxB_iff, okB_iff, okB_iff] at hb hc
  unfold uni
  dsimp only
  rw [boxB_iff, okB_iff, okB_iff]
  unfold minV maxV
  omega
theorem area_mono {b u : B4} (hb : boxB b = true) (hu : boxB u = true) (h : u.1 ≤ b.1 ∧ u.2.1 ≤ b.2.1 ∧ b.2.2.1 ≤ u.2.2.1 ∧ b.2.2.2 ≤ u.2.2.2) : areaN b ≤ areaN u := by
  have h1 := boxB_bd hb
  unfold areaN
  rw [if_pos hb, if_pos hu]
  exact Int.mul_le_mul (by omega) (by omega) (by omega) (by omega)
theorem uni_left (b c : B4) : (uni b c).1 ≤ b.1 ∧ (uni b c).2.1 ≤ b.2.1 ∧ b.2.2.1 ≤ (uni b c).2.2.1 ∧ b.2.2.2 ≤ (uni b c).2.2.2 := by
  unfold uni minV maxV; dsimp only; omega
theorem growN_sum {b c : B4} (hb : boxB b = true) (hc : boxB c = true) : areaN b + growN b c = areaN (uni b c) := by
  unfold growN; rw [if_pos ⟨hb, hc⟩]; omega
theorem growN_bd {b c : B4} (hb : boxB b = true) (hc : boxB c = true) : 0 ≤ growN b c ∧ growN b c ≤ 4611686009837453316 := by
  have h1 := area_mono hb (uni_box hb hc) (uni_left b c)
  have h2 := areaN_bd (uni b c)
  have h3 := areaN_bd b
  unfold growN; rw [if_pos ⟨hb, hc⟩]; omega
theorem growN_inside {b c : B4} (hi : insideB c.1 c.2.1 c.2.2.1 c.2.2.2 b.1 b.2.1 b.2.2.1 b.2.2.2 = true) (hb : boxB b = true) (hc : boxB c = true) : growN b c = 0 := by
  have e : uni b c = b := by
    obtain ⟨b1, b2, b3, b4⟩ := b; obtain ⟨c1, c2, c3, c4⟩ := c
    unfold insideB hasB at hi
    simp only [Bool.and_eq_true, decide_eq_true_eq] at hi
    unfold uni minV maxV
    simp only [Prod.mk.injEq]
    omega
  unfold growN; rw [if_pos ⟨hb, hc⟩, e]; omega
theorem growN_more {b a c : B4} (hb : boxB b = true) (ha : boxB a = true) (hc : boxB c = true) : growN b a ≤ growN b (uni a c) := by
  have hm := uni_box ha hc
  unfold growN
  rw [if_pos ⟨hb, ha⟩, if_pos ⟨hb, hm⟩]
  have h1 := uni_box hb ha
  have h2 := uni_box hb hm
  have := area_mono h1 h2 (by unfold uni minV maxV; dsimp only; omega)
  omega
end Go.Proofs.Ytandehgdmefpaaa
