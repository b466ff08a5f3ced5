/- pergolaref1: Lowest. -/
import Derived.Test.YthamagnlpndnoaaDoorDiv2
namespace Go.Proofs.YthamagnlpndnoaaDoor
open Go.RowKit

theorem gcdV_pos {a b : Int} (ha : 0 < a) : 0 < gcdV a b := by
  unfold gcdV
  have := Nat.gcd_pos_of_pos_left b.toNat (show 0 < a.toNat by omega)
  omega
theorem quo_word {a b : Int} (ha : Word a) (hb : 0 < b) : Word (a / b) := by
  refine ⟨Int.ediv_nonneg ha.1 (Int.le_of_lt hb), ?_⟩
  have := Int.ediv_le_self (b := b) ha.1
  have := ha.2
  omega

/-- A fraction in lowest terms, as its three words. -/
def lowG (N d : Int) : Int := gcdV d (N % d)
set_option maxHeartbeats 1000000 in
theorem lowest_any (h l d : Int) (h1 : Word h) (h2 : Word l) (h3 : Word d) (h4 : 0 < d) (w : World) :
    Calls Tryd.prog 15 #[.agg #[.int .u64 h, .int .u64 l], .int .u64 d] w fun e w' => e = .returned (.agg #[.int .u64 (hiOf (num h l / lowG (num h l) d)), .int .u64 (loOf (num h l / lowG (num h l) d)), .int .u64 (d / lowG (num h l) d)]) ∧ Below w.heap.size w w' := by
  have hr0 := Int.emod_nonneg (num h l) (show d ≠ 0 by omega)
  have hr1 := Int.emod_lt_of_pos (num h l) h4
  have hr : Word (num h l % d) := by unfold Word at h3 ⊢; omega
  have hg : lowG (num h l) d = gcdV d (num h l % d) := rfl
  have hgp : 0 < gcdV d (num h l % d) := gcdV_pos h4
  have hgw := gcdV_word d (num h l % d) h3 hr
  have HG := fun w => gcd_any d (num h l % d) h3 hr w
  rw [← hg] at hgp hgw HG
  generalize lowG (num h l) d = g at *
  clear hg
  have HD := fun w => div_any h l d h1 h2 h3 h4 w
  have HQ := fun w => div_any h l g h1 h2 hgw hgp w
  have hx : IntKind.u64.wrap (d.tdiv g) = d / g := by
    rw [Int.tdiv_eq_ediv_of_nonneg h3.1, IntKind.wrap_u64]
    have := quo_word h3 hgp; unfold Word at this; omega
  generalize num h l / g = q at *
  generalize num h l % g = q' at *
  generalize num h l / d = r1 at *
  generalize num h l % d = r at *
  generalize d / g = x at *
  have hg0 : ¬ g = 0 := by omega
  go_enter Tryd.func15, Tryd.ntmps15
  go_wp2_with fail
  refine (HD _).mono ?_; rintro e w1 ⟨rfl, hB1⟩; obtain ⟨hc1, hf1⟩ := keep hB1; have hz1 := hB1.size; try simp at hz1
  go_wp2_with fail
  refine (HG _).mono ?_; rintro e w2 ⟨rfl, hB2⟩; obtain ⟨hc2, hf2⟩ := keep hB2; have hz2 := hB2.size; try simp at hz2
  go_wp2_with fail
  refine (HQ _).mono ?_; rintro e w3 ⟨rfl, hB3⟩; obtain ⟨hc3, hf3⟩ := keep hB3; have hz3 := hB3.size; try simp at hz3
  go_wp2_with fail
  go_region
  go_wp2
  exact bodyPost_ret (v := .agg #[.int .u64 (hiOf q), .int .u64 (loOf q), .int .u64 x]) (by simp [*, results, Tryd.results15, go_sem]) rfl ⟨rfl, by (repeat' (first | (with_reducible exact Below.refl _ _) | (with_reducible assumption) | (with_reducible refine Below.alloc ?_ ?_ _) | (with_reducible refine Below.drew ?_) | (with_reducible refine drewN_below ?_ _) | (with_reducible refine Below.setCell ?_ ?_ _) | (with_reducible refine below_call (by with_reducible assumption) ?_ ?_) | (first | (with_reducible exact Nat.le_refl _) | (with_reducible assumption) | omega | (simp; done) | (simp; omega))))⟩

theorem lowG_one (N : Int) : lowG N 1 = 1 := by unfold lowG gcdV; simp
theorem lowest1_any (h l : Int) (h1 : Word h) (h2 : Word l) (w : World) :
    Calls Tryd.prog 15 #[.agg #[.int .u64 h, .int .u64 l], .int .u64 1] w fun e w' => e = .returned (.agg #[.int .u64 h, .int .u64 l, .int .u64 1]) ∧ Below w.heap.size w w' := by
  refine (lowest_any h l 1 h1 h2 ⟨by decide, by decide⟩ (by decide) w).mono ?_
  rintro e w' ⟨rfl, hB⟩
  refine ⟨?_, hB⟩
  rw [lowG_one, Int.ediv_one, Int.ediv_one, hiOf_num h1 h2, loOf_num h2]
end Go.Proofs.YthamagnlpndnoaaDoor
