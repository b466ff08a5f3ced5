/- plane: Has, Meets, Inside, Cross, Orient, Square, Dist. -/
import Derived.Test.YtocpdphchignpaaBoxes
import Derived.Test.YtocpdphchignpaaSquares
import Derived.BigGuardPart
namespace Go.Proofs.Ytocpdphchignpaa
open Go.RowKit

theorem boxes1 (W : World) (b : Nat) (hb : b = W.heap.size) (t : TypeId) (a1 a2 a3 a4 : Int) :
    Calls Try.prog 47 #[.slice (some ⟨b, 0, none⟩) 1 1] (W.alloc (.cells #[.int .i64 a1, .int .i64 a2, .int .i64 a3, .int .i64 a4] t)) fun e w' => e = .returned (.bool (boxB (a1, a2, a3, a4))) ∧ Below (W.alloc (.cells #[.int .i64 a1, .int .i64 a2, .int .i64 a3, .int .i64 a4] t)).heap.size (W.alloc (.cells #[.int .i64 a1, .int .i64 a2, .int .i64 a3, .int .i64 a4] t)) w' :=
  (boxes_any b 1 [(a1, a2, a3, a4)] _ (by simp) (by simp) (by simp) (by simp [hb]) (by subst hb; intro i hi; match i, hi with | 0, _ => simp)).mono fun e w' ⟨he, hB⟩ =>
    ⟨by rw [he]; simp, hB⟩

def hasB (lx ly hx hy px py : Int) : Bool := boxB (lx, ly, hx, hy) && (okB (px, py) && (decide (lx ≤ px) && (decide (px ≤ hx) && (decide (ly ≤ py) && decide (py ≤ hy)))))

set_option maxHeartbeats 1000000 in
theorem has_any (lx ly hx hy px py : Int) (w : World) :
    Calls Try.prog 29 #[.agg #[.int .i64 lx, .int .i64 ly, .int .i64 hx, .int .i64 hy], .agg #[.int .i64 px, .int .i64 py]] w fun e w' => e = .returned (.bool (hasB lx ly hx hy px py)) ∧ Below w.heap.size w w' := by
  go_enter Try.func29, Try.ntmps29
  go_wp2_with (first | (go_at_call 47; refine (boxes1 _ _ (by simp) _ _ _ _ _).mono ?_; rintro e w' ⟨rfl, hB⟩; obtain ⟨hc, hf⟩ := keep hB; have hz := hB.size; try simp at hz) | (go_at_call 48; refine (may1 _ _ (by simp) _ _ _).mono ?_; rintro e w' ⟨rfl, hB⟩; obtain ⟨hc, hf⟩ := keep hB; have hz := hB.size; try simp at hz))
  all_goals (go_ret; exact ⟨ret_bool (by first | (simp [hasB, *]; done) | (simp [hasB, *]; omega) | (clear hB hc hf; simp_all [hasB]; done) | (clear hB hc hf; simp_all [hasB]; omega)), by (repeat' (first | (with_reducible exact Below.refl _ _) | (with_reducible assumption) | (with_reducible refine Below.alloc ?_ ?_ _) | (with_reducible refine Below.drew ?_) | (with_reducible refine Below.setCell ?_ ?_ _) | (with_reducible refine below_call (by with_reducible assumption) ?_ ?_) | (first | (with_reducible exact Nat.le_refl _) | (with_reducible assumption) | omega | (simp; done) | (simp; omega))))⟩)

theorem boxes2 (W : World) (b : Nat) (hb : b = W.heap.size) (t : TypeId) (a1 a2 a3 a4 b1 b2 b3 b4 : Int) :
    Calls Try.prog 47 #[.slice (some ⟨b, 0, none⟩) 2 2] (W.alloc (.cells #[.int .i64 a1, .int .i64 a2, .int .i64 a3, .int .i64 a4, .int .i64 b1, .int .i64 b2, .int .i64 b3, .int .i64 b4] t)) fun e w' => e = .returned (.bool (boxB (a1, a2, a3, a4) && boxB (b1, b2, b3, b4))) ∧ Below (W.alloc (.cells #[.int .i64 a1, .int .i64 a2, .int .i64 a3, .int .i64 a4, .int .i64 b1, .int .i64 b2, .int .i64 b3, .int .i64 b4] t)).heap.size (W.alloc (.cells #[.int .i64 a1, .int .i64 a2, .int .i64 a3, .int .i64 a4, .int .i64 b1, .int .i64 b2, .int .i64 b3, .int .i64 b4] t)) w' :=
  (boxes_any b 2 [(a1, a2, a3, a4), (b1, b2, b3, b4)] _ (by simp) (by simp) (by simp) (by simp [hb]) (by subst hb; intro i hi; match i, hi with | 0, _ => simp | 1, _ => simp)).mono fun e w' ⟨he, hB⟩ =>
    ⟨by rw [he]; simp, hB⟩

def meetsB (a1 a2 a3 a4 b1 b2 b3 b4 : Int) : Bool := boxB (a1, a2, a3, a4) && (boxB (b1, b2, b3, b4) && (decide (a1 ≤ b3) && (decide (b1 ≤ a3) && (decide (a2 ≤ b4) && decide (b2 ≤ a4)))))

def insideB (a1 a2 a3 a4 b1 b2 b3 b4 : Int) : Bool := boxB (a1, a2, a3, a4) && (hasB b1 b2 b3 b4 a1 a2 && hasB b1 b2 b3 b4 a3 a4)

def crossV (a b c : Int × Int) : Int := if ok3 a b c = true then (b.1 - a.1) * (c.2 - a.2) - (b.2 - a.2) * (c.1 - a.1) else 0
theorem crossV_bd (a b c : Int × Int) : -9223372036854775807 ≤ crossV a b c ∧ crossV a b c ≤ 9223372036854775807 := by
  obtain ⟨ax, ay⟩ := a; obtain ⟨bx, b_y⟩ := b; obtain ⟨cx, cy⟩ := c
  unfold crossV
  split
  · rename_i h
    rw [ok3_iff, okB_iff, okB_iff, okB_iff] at h
    obtain ⟨⟨⟨a1, a2⟩, a3, a4⟩, ⟨⟨b1, b2⟩, b3, b4⟩, ⟨c1, c2⟩, c3, c4⟩ := h
    obtain ⟨m1, m2⟩ := mul_far (bx - ax) (cy - ay) (by omega) (by omega)
    obtain ⟨m3, m4⟩ := mul_far (b_y - ay) (cx - ax) (by omega) (by omega)
    dsimp only
    omega
  · omega

set_option maxHeartbeats 400000 in
theorem cross_any (ax ay bx b_y cx cy : Int) (w : World) :
    Calls Try.prog 35 #[.agg #[.int .i64 ax, .int .i64 ay], .agg #[.int .i64 bx, .int .i64 b_y], .agg #[.int .i64 cx, .int .i64 cy]] w fun e w' => e = .returned (.int .i64 (crossV (ax, ay) (bx, b_y) (cx, cy))) ∧ Below w.heap.size w w' := by
  cases h : ok3 (ax, ay) (bx, b_y) (cx, cy)
  · have hv : crossV (ax, ay) (bx, b_y) (cx, cy) = 0 := by simp [crossV, h]
    rw [hv]; clear hv
    go_enter Try.func35, Try.ntmps35
    go_wp2_with (go_at_call 48; refine (may3 _ _ (by simp) _ _ _ _ _ _ _).mono ?_; rintro e w' ⟨rfl, hB⟩; obtain ⟨hc, hf⟩ := keep hB; have hz := hB.size; try simp at hz)
    go_ret
    exact ⟨rfl, by (repeat' (first | (with_reducible exact Below.refl _ _) | (with_reducible assumption) | (with_reducible refine Below.alloc ?_ ?_ _) | (with_reducible refine Below.drew ?_) | (with_reducible refine Below.setCell ?_ ?_ _) | (with_reducible refine below_call (by with_reducible assumption) ?_ ?_) | (first | (with_reducible exact Nat.le_refl _) | (with_reducible assumption) | omega | (simp; done) | (simp; omega))))⟩
  · have hv : crossV (ax, ay) (bx, b_y) (cx, cy) = (bx - ax) * (cy - ay) - (b_y - ay) * (cx - ax) := by simp [crossV, h]
    rw [hv]; clear hv
    have h' := h
    rw [ok3_iff, okB_iff, okB_iff, okB_iff] at h'
    obtain ⟨⟨⟨a1, a2⟩, a3, a4⟩, ⟨⟨b1, b2⟩, b3, b4⟩, ⟨c1, c2⟩, c3, c4⟩ := h'
    obtain ⟨m1, m2⟩ := mul_far (bx - ax) (cy - ay) (by omega) (by omega)
    obtain ⟨m3, m4⟩ := mul_far (b_y - ay) (cx - ax) (by omega) (by omega)
    go_enter Try.func35, Try.ntmps35
    go_wp2_with (go_at_call 48; refine (may3 _ _ (by simp) _ _ _ _ _ _ _).mono ?_; rintro e w' ⟨rfl, hB⟩; obtain ⟨hc, hf⟩ := keep hB; have hz := hB.size; try simp at hz)
    go_ret
    exact ⟨rfl, by (repeat' (first | (with_reducible exact Below.refl _ _) | (with_reducible assumption) | (with_reducible refine Below.alloc ?_ ?_ _) | (with_reducible refine Below.drew ?_) | (with_reducible refine Below.setCell ?_ ?_ _) | (with_reducible refine below_call (by with_reducible assumption) ?_ ?_) | (first | (with_reducible exact Nat.le_refl _) | (with_reducible assumption) | omega | (simp; done) | (simp; omega))))⟩

set_option maxHeartbeats 400000 in
theorem isNaN_any (x : Int) (w : World) :
    Calls Try.prog 60 #[.int .i64 x] w fun e w' => e = .returned (.bool false) ∧ w = w' := by
  go_enter Try.func60, Try.ntmps60
  go_wp2
  go_ret
  exact ⟨by simp, rfl⟩

set_option maxHeartbeats 400000 in
theorem cmp_any (x y : Int) (w : World) :
    Calls Try.prog 46 #[.int .i64 x, .int .i64 y] w fun e w' => e = .returned (.int .i64 (cmpV x y)) ∧ w = w' := by
  go_enter Try.func46, Try.ntmps46
  go_wp2_with (go_at_call 60; refine (isNaN_any _ _).mono ?_; rintro e w' ⟨rfl, rfl⟩)
  all_goals (go_ret; exact ⟨ret_int (by unfold cmpV; omega), rfl⟩)

set_option maxHeartbeats 400000 in
theorem orient_any (ax ay bx b_y cx cy : Int) (w : World) :
    Calls Try.prog 28 #[.agg #[.int .i64 ax, .int .i64 ay], .agg #[.int .i64 bx, .int .i64 b_y], .agg #[.int .i64 cx, .int .i64 cy]] w fun e w' => e = .returned (.int .i64 (cmpV (crossV (ax, ay) (bx, b_y) (cx, cy)) 0)) ∧ Below w.heap.size w w' := by
  go_enter Try.func28, Try.ntmps28
  go_wp2_with (first | (go_at_call 35; refine (cross_any _ _ _ _ _ _ _).mono ?_; rintro e w' ⟨rfl, hB⟩; obtain ⟨hc, hf⟩ := keep hB; have hz := hB.size; try simp at hz) | (go_at_call 46; refine (cmp_any _ _ _).mono ?_; rintro e w' ⟨rfl, rfl⟩))
  go_ret
  exact ⟨rfl, by (repeat' (first | (with_reducible exact Below.refl _ _) | (with_reducible assumption) | (with_reducible refine Below.alloc ?_ ?_ _) | (with_reducible refine Below.drew ?_) | (with_reducible refine Below.setCell ?_ ?_ _) | (with_reducible refine below_call (by with_reducible assumption) ?_ ?_) | (first | (with_reducible exact Nat.le_refl _) | (with_reducible assumption) | omega | (simp; done) | (simp; omega))))⟩

end Go.Proofs.Ytocpdphchignpaa
