/- plane: squares, gap. -/
import Derived.Test.YtocpdphchignpaaWide
namespace Go.Proofs.Ytocpdphchignpaa
open Go.RowKit

set_option maxHeartbeats 400000 in
theorem squares_any (x y : Int) (hx : Int64 x) (hy : Int64 y) (w : World) :
    Calls Try.prog 49 #[.int .i64 x, .int .i64 y] w fun e w' => e = .returned (.agg #[.int .u64 (hiOf (x * x + y * y)), .int .u64 (loOf (x * x + y * y)), .int .u64 1]) ∧ Below w.heap.size w w' := by
  have bx := sq_big hx
  have b_y := sq_big hy
  have hbx : Big (x * x) := by unfold Big; omega
  have hby : Big (y * y) := by unfold Big; omega
  clear bx b_y
  go_enter Try.func49, Try.ntmps49
  go_wp2_with fail
  refine (wsquare_any x hx _).mono ?_; rintro e w' ⟨rfl, hB⟩; obtain ⟨hc, hf⟩ := keep hB; have hz := hB.size; try simp at hz
  go_wp2_with fail
  refine (wsquare_any y hy _).mono ?_; rintro e w' ⟨rfl, hB⟩; obtain ⟨hc, hf⟩ := keep hB; have hz := hB.size; try simp at hz
  go_wp2_with fail
  refine (wadd_big (x * x) (y * y) hbx hby _).mono ?_; rintro e w' ⟨rfl, hB⟩; obtain ⟨hc, hf⟩ := keep hB; have hz := hB.size; try simp at hz
  go_wp2
  exact bodyPost_ret (v := .agg #[.int .u64 (hiOf (x * x + y * y)), .int .u64 (loOf (x * x + y * y)), .int .u64 1]) (by simp [*, results, Try.results49, go_sem]) rfl ⟨rfl, by (repeat' (first | (with_reducible exact Below.refl _ _) | (with_reducible assumption) | (with_reducible refine Below.alloc ?_ ?_ _) | (with_reducible refine Below.drew ?_) | (with_reducible refine Below.setCell ?_ ?_ _) | (with_reducible refine below_call (by with_reducible assumption) ?_ ?_) | (first | (with_reducible exact Nat.le_refl _) | (with_reducible assumption) | omega | (simp; done) | (simp; omega))))⟩

def gapV (n lo hi : Int) : Int := max (max (lo - n) (n - hi)) 0
end Go.Proofs.Ytocpdphchignpaa
