/- plane: squares, gap. -/
import Derived.Test.YtandehgdmefpaaaWide
namespace Go.Proofs.Ytandehgdmefpaaa
open Go.RowKit

set_option maxHeartbeats 400000 in
theorem squares_any (x y : Int) (hx : Int64 x) (hy : Int64 y) (w : World) :
    Calls Try.prog 45 #[.int .i64 x, .int .i64 y] w fun e w' => e = .returned (.agg #[.int .u64 (hiOf (x * x + y * y)), .int .u64 (loOf (x * x + y * y)), .int .u64 1]) ∧ Below w.heap.size w w' := by
  have bx := sq_big hx
  have b_y := sq_big hy
  have hbx : Big (x * x) := by unfold Big; omega
  have hby : Big (y * y) := by unfold Big; omega
  clear bx b_y
  go_enter Try.func45, Try.ntmps45
  go_wp2_with fail
  refine (wsquare_any x hx _).mono ?_; rintro e w' ⟨rfl, hB⟩; obtain ⟨hc, hf⟩ := keep hB; have hz := hB.size; try simp at hz
  go_wp2_with fail
  refine (wsquare_any y hy _).mono ?_; rintro e w' ⟨rfl, hB⟩; obtain ⟨hc, hf⟩ := keep hB; have hz := hB.size; try simp at hz
  go_wp2_with fail
  refine (wadd_big (x * x) (y * y) hbx hby _).mono ?_; rintro e w' ⟨rfl, hB⟩; obtain ⟨hc, hf⟩ := keep hB; have hz := hB.size; try simp at hz
  go_wp2
  exact bodyPost_ret (v := .agg #[.int .u64 (hiOf (x * x + y * y)), .int .u64 (loOf (x * x + y * y)), .int .u64 1]) (by simp [*, results, Try.results45, go_sem]) rfl ⟨rfl, by (repeat' (first | (with_reducible exact Below.refl _ _) | (with_reducible assumption) | (with_reducible refine Below.alloc ?_ ?_ _) | (with_reducible refine Below.drew ?_) | (with_reducible refine Below.setCell ?_ ?_ _) | (with_reducible refine below_call (by with_reducible assumption) ?_ ?_) | (first | (with_reducible exact Nat.le_refl _) | (with_reducible assumption) | omega | (simp; done) | (simp; omega))))⟩

def gapV (n lo hi : Int) : Int := max (max (lo - n) (n - hi)) 0
set_option maxHeartbeats 400000 in
theorem gap_any (n lo hi : Int) (h1 : -1073741823 ≤ n) (h2 : n ≤ 1073741823) (h3 : -1073741823 ≤ lo) (h4 : lo ≤ 1073741823) (h5 : -1073741823 ≤ hi) (h6 : hi ≤ 1073741823) (w : World) :
    Calls Try.prog 46 #[.int .i64 n, .int .i64 lo, .int .i64 hi] w fun e w' => e = .returned (.int .i64 (gapV n lo hi)) ∧ w = w' := by
  go_enter Try.func46, Try.ntmps46
  go_wp2
  all_goals
    go_ret
    exact ⟨ret_int (by unfold gapV; omega), rfl⟩
end Go.Proofs.Ytandehgdmefpaaa
