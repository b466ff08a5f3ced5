/- plane: Square, Dist. -/
import Derived.Test.YtocpdphchignpaaPlaneA
import Derived.Deep.RegionHeld3
namespace Go.Proofs.Ytocpdphchignpaa
open Go.RowKit

theorem boxB_iff (a1 a2 a3 a4 : Int) : boxB (a1, a2, a3, a4) = true ↔ okB (a1, a2) = true ∧ okB (a3, a4) = true ∧ a1 ≤ a3 ∧ a2 ≤ a4 := by
  unfold boxB boxCode
  rw [ok2]
  cases h1 : okB (a1, a2) <;> cases h2 : okB (a3, a4) <;> simp <;> omega

/-- The square of the distance of two points; 0 where one is too far. -/
def sqN (ax ay bx b_y : Int) : Int := if ok2 (ax, ay) (bx, b_y) = true then (ax - bx) * (ax - bx) + (ay - b_y) * (ay - b_y) else 0
def sqD (ax ay bx b_y : Int) : Int := if ok2 (ax, ay) (bx, b_y) = true then 1 else 0

set_option maxHeartbeats 400000 in
theorem square_any (ax ay bx b_y : Int) (w : World) :
    Calls Try.prog 32 #[.agg #[.int .i64 ax, .int .i64 ay], .agg #[.int .i64 bx, .int .i64 b_y]] w fun e w' => e = .returned (.agg #[.int .u64 (hiOf (sqN ax ay bx b_y)), .int .u64 (loOf (sqN ax ay bx b_y)), .int .u64 (sqD ax ay bx b_y)]) ∧ Below w.heap.size w w' := by
  cases h : ok2 (ax, ay) (bx, b_y)
  · have e1 : sqN ax ay bx b_y = 0 := by simp [sqN, h]
    have e2 : sqD ax ay bx b_y = 0 := by simp [sqD, h]
    rw [e1, e2]; clear e1 e2
    go_enter Try.func32, Try.ntmps32
    go_wp2_with (first | (go_at_call 48; refine (may2 _ _ (by simp) _ _ _ _ _).mono ?_; rintro e w' ⟨rfl, hB⟩; obtain ⟨hc, hf⟩ := keep hB; have hz := hB.size; try simp at hz))
    exact bodyPost_ret (v := .agg #[.int .u64 0, .int .u64 0, .int .u64 0]) (by simp [*, results, Try.results32, go_sem]) rfl ⟨rfl, by (repeat' (first | (with_reducible exact Below.refl _ _) | (with_reducible assumption) | (with_reducible refine Below.alloc ?_ ?_ _) | (with_reducible refine Below.drew ?_) | (with_reducible refine Below.setCell ?_ ?_ _) | (with_reducible refine below_call (by with_reducible assumption) ?_ ?_) | (first | (with_reducible exact Nat.le_refl _) | (with_reducible assumption) | omega | (simp; done) | (simp; omega))))⟩
  · have e1 : sqN ax ay bx b_y = (ax - bx) * (ax - bx) + (ay - b_y) * (ay - b_y) := by simp [sqN, h]
    have e2 : sqD ax ay bx b_y = 1 := by simp [sqD, h]
    rw [e1, e2]; clear e1 e2
    have h' := h
    rw [ok2_iff, okB_iff, okB_iff] at h'
    obtain ⟨⟨⟨a1, a2⟩, a3, a4⟩, ⟨b1, b2⟩, b3, b4⟩ := h'
    have i1 : Int64 (ax - bx) := by unfold Int64; omega
    have i2 : Int64 (ay - b_y) := by unfold Int64; omega
    go_enter Try.func32, Try.ntmps32
    go_wp2_with (first | (go_at_call 48; refine (may2 _ _ (by simp) _ _ _ _ _).mono ?_; rintro e w' ⟨rfl, hB⟩; obtain ⟨hc, hf⟩ := keep hB; have hz := hB.size; try simp at hz) | (go_at_call 49; refine (squares_any _ _ i1 i2 _).mono ?_; rintro e w' ⟨rfl, hB⟩; obtain ⟨hc, hf⟩ := keep hB; have hz := hB.size; try simp at hz))
    exact bodyPost_ret (v := .agg #[.int .u64 (hiOf ((ax - bx) * (ax - bx) + (ay - b_y) * (ay - b_y))), .int .u64 (loOf ((ax - bx) * (ax - bx) + (ay - b_y) * (ay - b_y))), .int .u64 1]) (by simp [*, results, Try.results32, go_sem]) rfl ⟨rfl, by (repeat' (first | (with_reducible exact Below.refl _ _) | (with_reducible assumption) | (with_reducible refine Below.alloc ?_ ?_ _) | (with_reducible refine Below.drew ?_) | (with_reducible refine Below.setCell ?_ ?_ _) | (with_reducible refine below_call (by with_reducible assumption) ?_ ?_) | (first | (with_reducible exact Nat.le_refl _) | (with_reducible assumption) | omega | (simp; done) | (simp; omega))))⟩

def distB (lx ly hx hy px py : Int) : Bool := boxB (lx, ly, hx, hy) && okB (px, py)
def distN (lx ly hx hy px py : Int) : Int := if distB lx ly hx hy px py = true then gapV px lx hx * gapV px lx hx + gapV py ly hy * gapV py ly hy else 0
def distD (lx ly hx hy px py : Int) : Int := if distB lx ly hx hy px py = true then 1 else 0
theorem gapV_bd (n lo hi : Int) (h1 : -1073741823 ≤ n) (h2 : n ≤ 1073741823) (h3 : -1073741823 ≤ lo) (h4 : lo ≤ 1073741823) (h5 : -1073741823 ≤ hi) (h6 : hi ≤ 1073741823) : 0 ≤ gapV n lo hi ∧ gapV n lo hi ≤ 2147483646 := by
  unfold gapV; omega

end Go.Proofs.Ytocpdphchignpaa
