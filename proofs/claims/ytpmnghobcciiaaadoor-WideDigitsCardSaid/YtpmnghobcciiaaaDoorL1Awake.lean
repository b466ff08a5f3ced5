/- pergolalaw1: what the document fixes. -/
import Derived.Test.YtpmnghobcciiaaaDoorText
import Derived.Test.YtpmnghobcciiaaaDoorWCmp
namespace Go.Proofs.YtpmnghobcciiaaaDoor
open Go.RowKit

set_option maxRecDepth 100000 in
@[go_sem ↓] theorem eql_wu (a b c d : Int) (w : World) : (binOp .eql 24 (.agg #[.int .u64 a, .int .u64 b]) (.agg #[.int .u64 c, .int .u64 d])).run Tryd.prog w = .ok (.bool (eq2 a b c d)) w := by
  unfold eq2
  by_cases h1 : a = c <;> by_cases h2 : b = d <;> simp [go_sem, h1, h2]

set_option maxHeartbeats 400000 in
theorem lw_any (h l : Int) (w : World) :
    Calls Tryd.prog 18 #[.int .u64 h, .int .u64 l] w fun e w' => e = .returned (.agg #[.int .u64 h, .int .u64 l]) ∧ Below w.heap.size w w' := by
  go_enter Tryd.func18, Tryd.ntmps18
  go_wp2
  exact bodyPost_ret (v := .agg #[.int .u64 h, .int .u64 l]) (by simp [*, results, Tryd.results18, go_sem]) rfl ⟨rfl, by (repeat' (first | (with_reducible exact Below.refl _ _) | (with_reducible assumption) | (with_reducible refine Below.alloc ?_ ?_ _) | (with_reducible refine Below.drew ?_) | (with_reducible refine drewN_below ?_ _) | (with_reducible refine Below.setCell ?_ ?_ _) | (with_reducible refine below_call (by with_reducible assumption) ?_ ?_) | (first | (with_reducible exact Nat.le_refl _) | (with_reducible assumption) | omega | (simp; done) | (simp; omega))))⟩
set_option maxHeartbeats 400000 in
theorem lu_any (h l : Int) (w : World) :
    Calls Tryd.prog 21 #[.agg #[.int .u64 h, .int .u64 l]] w fun e w' => e = .returned (.agg #[.int .u64 h, .int .u64 l]) ∧ Below w.heap.size w w' := by
  go_enter Tryd.func21, Tryd.ntmps21
  go_wp2
  exact bodyPost_ret (v := .agg #[.int .u64 h, .int .u64 l]) (by simp [*, results, Tryd.results21, go_sem]) rfl ⟨rfl, by (repeat' (first | (with_reducible exact Below.refl _ _) | (with_reducible assumption) | (with_reducible refine Below.alloc ?_ ?_ _) | (with_reducible refine Below.drew ?_) | (with_reducible refine drewN_below ?_ _) | (with_reducible refine Below.setCell ?_ ?_ _) | (with_reducible refine below_call (by with_reducible assumption) ?_ ?_) | (first | (with_reducible exact Nat.le_refl _) | (with_reducible assumption) | omega | (simp; done) | (simp; omega))))⟩

theorem numeral_two64 : numeral (num 1 0) = ⟨#[49, 56, 52, 52, 54, 55, 52, 52, 48, 55, 51, 55, 48, 57, 53, 53, 49, 54, 49, 54]⟩ := by
  unfold numeral
  rw [show (num 1 0).toNat = 18446744073709551616 from rfl]
  simp [Lib.decDigits]

set_option maxHeartbeats 1000000 in
theorem awake1_any (w : World) (htab : Tab w) :
    Calls Tryd.prog 15 #[] w fun e w' => e = .returned (.bool true) ∧ Below w.heap.size w w' := by
  have hN := numeral_two64
  have e1 : hiOf (9223372036854775808 * 4) = 2 := rfl
  have e2 : loOf (9223372036854775808 * 4) = 0 := rfl
  have e3 : cmpV (num 1 0) (num 0 5) = 1 := rfl
  have W1 : Word 1 := by unfold Word; omega
  have W0 : Word 0 := by unfold Word; omega
  have HM := fun w => wmul_any 9223372036854775808 4 (by unfold Word; omega) (by unfold Word; omega) w
  rw [e1, e2] at HM
  have HT := fun w ht => text_any 1 0 W1 W0 w ht
  rw [hN] at HT
  have HC := fun w => wcompare_any 1 0 0 5 W0 (by unfold Word; omega) w
  rw [e3] at HC
  clear hN e1 e2 e3 W1 W0
  go_enter Tryd.func15, Tryd.ntmps15
  go_wp2_with fail
  refine (HM _).mono ?_; rintro e w1 ⟨rfl, hB1⟩; obtain ⟨hc1, hf1⟩ := keep hB1; have hz1 := hB1.size; try simp at hz1
  go_wp2_with fail
  refine (lw_any _ _ _).mono ?_; rintro e w2 ⟨rfl, hB2⟩; obtain ⟨hc2, hf2⟩ := keep hB2; have hz2 := hB2.size; try simp at hz2
  go_wp2_with fail
  refine (lw_any _ _ _).mono ?_; rintro e w3 ⟨rfl, hB3⟩; obtain ⟨hc3, hf3⟩ := keep hB3; have hz3 := hB3.size; try simp at hz3
  go_wp2_with fail
  refine (HT _ (htab.below (by (repeat' (first | (with_reducible exact Below.refl _ _) | (with_reducible assumption) | (with_reducible refine Below.alloc ?_ ?_ _) | (with_reducible refine Below.drew ?_) | (with_reducible refine drewN_below ?_ _) | (with_reducible refine Below.setCell ?_ ?_ _) | (with_reducible refine below_call (by with_reducible assumption) ?_ ?_) | (first | (with_reducible exact Nat.le_refl _) | (with_reducible assumption) | omega | (simp; done) | (simp; omega))))))).mono ?_; rintro e w4 ⟨rfl, hB4⟩; obtain ⟨hc4, hf4⟩ := keep hB4; have hz4 := hB4.size; try simp at hz4
  go_wp2_with fail
  refine (lw_any _ _ _).mono ?_; rintro e w5 ⟨rfl, hB5⟩; obtain ⟨hc5, hf5⟩ := keep hB5; have hz5 := hB5.size; try simp at hz5
  go_wp2_with fail
  refine (lw_any _ _ _).mono ?_; rintro e w6 ⟨rfl, hB6⟩; obtain ⟨hc6, hf6⟩ := keep hB6; have hz6 := hB6.size; try simp at hz6
  go_wp2_with fail
  refine (HC _).mono ?_; rintro e w7 ⟨rfl, hB7⟩; obtain ⟨hc7, hf7⟩ := keep hB7; have hz7 := hB7.size; try simp at hz7
  go_wp2
  go_ret
  exact ⟨rfl, by (repeat' (first | (with_reducible exact Below.refl _ _) | (with_reducible assumption) | (with_reducible refine Below.alloc ?_ ?_ _) | (with_reducible refine Below.drew ?_) | (with_reducible refine drewN_below ?_ _) | (with_reducible refine Below.setCell ?_ ?_ _) | (with_reducible refine below_call (by with_reducible assumption) ?_ ?_) | (first | (with_reducible exact Nat.le_refl _) | (with_reducible assumption) | omega | (simp; done) | (simp; omega))))⟩
end Go.Proofs.YtpmnghobcciiaaaDoor
