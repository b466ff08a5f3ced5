/- plane: Square, Dist. -/
import Derived.Test.YtandehgdmefpaaaPlaneA
import Derived.Deep.RegionHeld3
namespace Go.Proofs.Ytandehgdmefpaaa
open Go.RowKit

theorem boxB_iff (a1 a2 a3 a4 : Int) : boxB (a1, a2, a3, a4) = true ↔ okB (a1, a2) = true ∧ okB (a3, a4) = true ∧ a1 ≤ a3 ∧ a2 ≤ a4 := by
  unfold boxB boxCode
  rw [ok2]
  cases h1 : okB (a1, a2) <;> cases h2 : okB (a3, a4) <;> simp <;> omega

/-- The square of the distance of two points; 0 where one is too far. -/
def sqN (ax ay bx b_y : Int) : Int := if ok2 (ax, ay) (bx, b_y) = true then (ax - bx) * (ax - bx) + (ay - b_y) * (ay - b_y) else 0
def sqD (ax ay bx b_y : Int) : Int := if ok2 (ax, ay) (bx, b_y) = true then 1 else 0

set_option maxHeartbeats 400000 in
theorem square_any (ax ay bx b_y : Int) (w : World) :
    Calls Try.prog 21 #[.agg #[.int .i64 ax, .int .i64 ay], .agg #[.int .i64 bx, .int .i64 b_y]] w fun e w' => e = .returned (.agg #[.int .u64 (hiOf (sqN ax ay bx b_y)), .int .u64 (loOf (sqN ax ay bx b_y)), .int .u64 (sqD ax ay bx b_y)]) ∧ Below w.heap.size w w' := by
  cases h : ok2 (ax, ay) (bx, b_y)
  · have e1 : sqN ax ay bx b_y = 0 := by simp [sqN, h]
    have e2 : sqD ax ay bx b_y = 0 := by simp [sqD, h]
    rw [e1, e2]; clear e1 e2
    go_enter Try.func21, Try.ntmps21
    go_wp2_with (first | (go_at_call 42; refine (may2 _ _ (by simp) _ _ _ _ _).mono ?_; rintro e w' ⟨rfl, hB⟩; obtain ⟨hc, hf⟩ := keep hB; have hz := hB.size; try simp at hz))
    exact bodyPost_ret (v := .agg #[.int .u64 0, .int .u64 0, .int .u64 0]) (by simp [*, results, Try.results21, go_sem]) rfl ⟨rfl, by (repeat' (first | (with_reducible exact Below.refl _ _) | (with_reducible assumption) | (with_reducible refine Below.alloc ?_ ?_ _) | (with_reducible refine Below.drew ?_) | (with_reducible refine Below.setCell ?_ ?_ _) | (with_reducible refine below_call (by with_reducible assumption) ?_ ?_) | (first | (with_reducible exact Nat.le_refl _) | (with_reducible assumption) | omega | (simp; done) | (simp; omega))))⟩
  · have e1 : sqN ax ay bx b_y = (ax - bx) * (ax - bx) + (ay - b_y) * (ay - b_y) := by simp [sqN, h]
    have e2 : sqD ax ay bx b_y = 1 := by simp [sqD, h]
    rw [e1, e2]; clear e1 e2
    have h' := h
    rw [ok2_iff, okB_iff, okB_iff] at h'
    obtain ⟨⟨⟨a1, a2⟩, a3, a4⟩, ⟨b1, b2⟩, b3, b4⟩ := h'
    have i1 : Int64 (ax - bx) := by unfold Int64; omega
    have i2 : Int64 (ay - b_y) := by unfold Int64; omega
    go_enter Try.func21, Try.ntmps21
    go_wp2_with (first | (go_at_call 42; refine (may2 _ _ (by simp) _ _ _ _ _).mono ?_; rintro e w' ⟨rfl, hB⟩; obtain ⟨hc, hf⟩ := keep hB; have hz := hB.size; try simp at hz) | (go_at_call 45; refine (squares_any _ _ i1 i2 _).mono ?_; rintro e w' ⟨rfl, hB⟩; obtain ⟨hc, hf⟩ := keep hB; have hz := hB.size; try simp at hz))
    exact bodyPost_ret (v := .agg #[.int .u64 (hiOf ((ax - bx) * (ax - bx) + (ay - b_y) * (ay - b_y))), .int .u64 (loOf ((ax - bx) * (ax - bx) + (ay - b_y) * (ay - b_y))), .int .u64 1]) (by simp [*, results, Try.results21, go_sem]) rfl ⟨rfl, by (repeat' (first | (with_reducible exact Below.refl _ _) | (with_reducible assumption) | (with_reducible refine Below.alloc ?_ ?_ _) | (with_reducible refine Below.drew ?_) | (with_reducible refine Below.setCell ?_ ?_ _) | (with_reducible refine below_call (by with_reducible assumption) ?_ ?_) | (first | (with_reducible exact Nat.le_refl _) | (with_reducible assumption) | omega | (simp; done) | (simp; omega))))⟩

def distB (lx ly hx hy px py : Int) : Bool := boxB (lx, ly, hx, hy) && okB (px, py)
def distN (lx ly hx hy px py : Int) : Int := if distB lx ly hx hy px py = true then gapV px lx hx * gapV px lx hx + gapV py ly hy * gapV py ly hy else 0
def distD (lx ly hx hy px py : Int) : Int := if distB lx ly hx hy px py = true then 1 else 0
theorem gapV_bd (n lo hi : Int) (h1 : -1073741823 ≤ n) (h2 : n ≤ 1073741823) (h3 : -1073741823 ≤ lo) (h4 : lo ≤ 1073741823) (h5 : -1073741823 ≤ hi) (h6 : hi ≤ 1073741823) : 0 ≤ gapV n lo hi ∧ gapV n lo hi ≤ 2147483646 := by
  unfold gapV; omega

set_option maxHeartbeats 1000000 in
theorem dist_any (lx ly hx hy px py : Int) (w : World) :
    Calls Try.prog 19 #[.agg #[.int .i64 lx, .int .i64 ly, .int .i64 hx, .int .i64 hy], .agg #[.int .i64 px, .int .i64 py]] w fun e w' => e = .returned (.agg #[.int .u64 (hiOf (distN lx ly hx hy px py)), .int .u64 (loOf (distN lx ly hx hy px py)), .int .u64 (distD lx ly hx hy px py)]) ∧ Below w.heap.size w w' := by
  cases hb : boxB (lx, ly, hx, hy) <;> cases hp : okB (px, py)
  case true.true =>
    have e1 : distN lx ly hx hy px py = gapV px lx hx * gapV px lx hx + gapV py ly hy * gapV py ly hy := by simp [distN, distB, hb, hp]
    have e2 : distD lx ly hx hy px py = 1 := by simp [distD, distB, hb, hp]
    rw [e1, e2]; clear e1 e2
    have hb' := hb
    have hp' := hp
    rw [boxB_iff, okB_iff, okB_iff] at hb'
    rw [okB_iff] at hp'
    obtain ⟨⟨⟨a1, a2⟩, a3, a4⟩, ⟨⟨b1, b2⟩, b3, b4⟩, c1, c2⟩ := hb'
    obtain ⟨⟨d1, d2⟩, d3, d4⟩ := hp'
    have g1 := gapV_bd px lx hx d1 d2 a1 a2 b1 b2
    have g2 := gapV_bd py ly hy d3 d4 a3 a4 b3 b4
    have i1 : Int64 (gapV px lx hx) := by unfold Int64; omega
    have i2 : Int64 (gapV py ly hy) := by unfold Int64; omega
    clear g1 g2
    go_enter Try.func19, Try.ntmps19
    go_wp2_with (first | (go_at_call 44; refine (boxes1 _ _ (by simp) _ _ _ _ _).mono ?_; rintro e w' ⟨rfl, hB⟩; obtain ⟨hc, hf⟩ := keep hB; have hz := hB.size; try simp at hz) | (go_at_call 42; refine (may1 _ _ (by simp) _ _ _).mono ?_; rintro e w' ⟨rfl, hB⟩; obtain ⟨hc, hf⟩ := keep hB; have hz := hB.size; try simp at hz))
    go_region_held3 (fun w' => w'.cell? ⟨w.heap.size, 0, none⟩ = some (.int .i64 lx) ∧ w'.cell? ⟨w.heap.size, 1, none⟩ = some (.int .i64 ly) ∧ w'.cell? ⟨w.heap.size, 2, none⟩ = some (.int .i64 hx) ∧ w'.cell? ⟨w.heap.size, 3, none⟩ = some (.int .i64 hy) ∧ w'.cell? ⟨w.heap.size + 1, 0, none⟩ = some (.int .i64 px) ∧ w'.cell? ⟨w.heap.size + 1, 1, none⟩ = some (.int .i64 py)) (simp [*, go_sem])
      (first
        | (go_at_call 46; refine (gap_any _ _ _ (by omega) (by omega) (by omega) (by omega) (by omega) (by omega) _).mono ?_; rintro e w' ⟨rfl, rfl⟩)
        | (go_at_call 45; refine (squares_any _ _ i1 i2 _).mono ?_; rintro e w' ⟨rfl, hB⟩; obtain ⟨hc, hf⟩ := keep hB; have hz := hB.size; try simp at hz))
    go_wp2
    exact bodyPost_ret (v := .agg #[.int .u64 (hiOf (gapV px lx hx * gapV px lx hx + gapV py ly hy * gapV py ly hy)), .int .u64 (loOf (gapV px lx hx * gapV px lx hx + gapV py ly hy * gapV py ly hy)), .int .u64 1]) (by simp [*, results, Try.results19, go_sem]) rfl ⟨rfl, by (repeat' (first | (with_reducible exact Below.refl _ _) | (with_reducible assumption) | (with_reducible refine Below.alloc ?_ ?_ _) | (with_reducible refine Below.drew ?_) | (with_reducible refine Below.setCell ?_ ?_ _) | (with_reducible refine below_call (by with_reducible assumption) ?_ ?_) | (first | (with_reducible exact Nat.le_refl _) | (with_reducible assumption) | omega | (simp; done) | (simp; omega))))⟩
  all_goals
    have e1 : distN lx ly hx hy px py = 0 := by simp [distN, distB, hb, hp]
    have e2 : distD lx ly hx hy px py = 0 := by simp [distD, distB, hb, hp]
    rw [e1, e2]; clear e1 e2
    go_enter Try.func19, Try.ntmps19
    go_wp2_with (first | (go_at_call 44; refine (boxes1 _ _ (by simp) _ _ _ _ _).mono ?_; rintro e w' ⟨rfl, hB⟩; obtain ⟨hc, hf⟩ := keep hB; have hz := hB.size; try simp at hz) | (go_at_call 42; refine (may1 _ _ (by simp) _ _ _).mono ?_; rintro e w' ⟨rfl, hB⟩; obtain ⟨hc, hf⟩ := keep hB; have hz := hB.size; try simp at hz))
    exact bodyPost_ret (v := .agg #[.int .u64 0, .int .u64 0, .int .u64 0]) (by simp [*, results, Try.results19, go_sem]) rfl ⟨rfl, by (repeat' (first | (with_reducible exact Below.refl _ _) | (with_reducible assumption) | (with_reducible refine Below.alloc ?_ ?_ _) | (with_reducible refine Below.drew ?_) | (with_reducible refine Below.setCell ?_ ?_ _) | (with_reducible refine below_call (by with_reducible assumption) ?_ ?_) | (first | (with_reducible exact Nat.le_refl _) | (with_reducible assumption) | omega | (simp; done) | (simp; omega))))⟩
end Go.Proofs.Ytandehgdmefpaaa
