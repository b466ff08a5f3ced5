/- PlaneMeets: two boxes meet just if some point is in both; the distance of a point is 0 just if it is in the box. For every two boxes and every point; no condition. -/
import Derived.Test.YtandehgdmefpaaaL3Awake
import Derived.Test.YtandehgdmefpaaaRefBox
import Derived.Test.YtandehgdmefpaaaOpenPt
import Derived.Test.YtandehgdmefpaaaEq
import Derived.Test.YtandehgdmefpaaaRegion
namespace Go.Proofs.Ytandehgdmefpaaa
open Go.ChangeShapes Go.WideShapes Go.ChangeAt Go.RowKit

def maxV (x y : Int) : Int := if x < y then y else x
def minV (x y : Int) : Int := if y < x then y else x

theorem okB_max {x y z u : Int} (h : okB (x, y) = true) (k : okB (z, u) = true) : okB (maxV x z, maxV y u) = true := by
  rw [okB_iff] at *; unfold maxV; omega
theorem meets_q (a1 a2 a3 a4 b1 b2 b3 b4 : Int) (hA : boxB (a1, a2, a3, a4) = true) (hB : boxB (b1, b2, b3, b4) = true) :
    (hasB a1 a2 a3 a4 (maxV a1 b1) (maxV a2 b2) && hasB b1 b2 b3 b4 (maxV a1 b1) (maxV a2 b2)) = meetsB a1 a2 a3 a4 b1 b2 b3 b4 := by
  have ho := okB_max ((boxB_iff _ _ _ _).1 hA).1 ((boxB_iff _ _ _ _).1 hB).1
  have h1 := ((boxB_iff _ _ _ _).1 hA).2.2
  have h2 := ((boxB_iff _ _ _ _).1 hB).2.2
  unfold hasB meetsB
  rw [hA, hB, ho, Bool.eq_iff_iff]
  simp only [Bool.true_and, Bool.and_eq_true, decide_eq_true_eq]
  unfold maxV
  omega
theorem meets_comm (a1 a2 a3 a4 b1 b2 b3 b4 : Int) : meetsB b1 b2 b3 b4 a1 a2 a3 a4 = meetsB a1 a2 a3 a4 b1 b2 b3 b4 := by
  unfold meetsB
  cases boxB (a1, a2, a3, a4) <;> cases boxB (b1, b2, b3, b4) <;> simp only [Bool.true_and, Bool.false_and, Bool.and_false]
  rw [Bool.eq_iff_iff]; simp only [Bool.and_eq_true, decide_eq_true_eq]; omega
theorem meets_p (a1 a2 a3 a4 b1 b2 b3 b4 px py : Int) (hA : hasB a1 a2 a3 a4 px py = true) (hB : hasB b1 b2 b3 b4 px py = true) : meetsB a1 a2 a3 a4 b1 b2 b3 b4 = true := by
  unfold hasB at hA hB; unfold meetsB
  simp only [Bool.and_eq_true, decide_eq_true_eq] at *
  exact ⟨hA.1, hB.1, by omega, by omega, by omega, by omega⟩
theorem sq_zero {x : Int} (h : x * x = 0) : x = 0 := by
  rcases Int.mul_eq_zero.1 h with h | h <;> exact h
theorem dist_zero (a1 a2 a3 a4 px py : Int) (hA : boxB (a1, a2, a3, a4) = true) (hp : okB (px, py) = true) :
    eq3 (hiOf (distN a1 a2 a3 a4 px py)) (loOf (distN a1 a2 a3 a4 px py)) (distD a1 a2 a3 a4 px py) 0 0 1 = hasB a1 a2 a3 a4 px py := by
  have hd : distB a1 a2 a3 a4 px py = true := by simp [distB, hA, hp]
  have hb := hA; have hp' := hp
  rw [boxB_iff, okB_iff, okB_iff] at hb
  rw [okB_iff] at hp'
  obtain ⟨⟨⟨b1, b2⟩, b3, b4⟩, ⟨⟨c1, c2⟩, c3, c4⟩, d1, d2⟩ := hb
  obtain ⟨⟨e1, e2⟩, e3, e4⟩ := hp'
  have g1 := gapV_bd px a1 a3 e1 e2 b1 b2 c1 c2
  have g2 := gapV_bd py a2 a4 e3 e4 b3 b4 c3 c4
  unfold distD distN
  rw [if_pos hd, if_pos hd]
  unfold hasB eq3
  rw [hA, hp, Bool.eq_iff_iff]
  simp only [Bool.true_and, Bool.and_eq_true, decide_eq_true_eq]
  have m1 := mul_bd (M := 2147483646) (gapV px a1 a3) (gapV px a1 a3) (by omega) (by omega)
  have m2 := mul_bd (M := 2147483646) (gapV py a2 a4) (gapV py a2 a4) (by omega) (by omega)
  have m3 := Int.mul_nonneg g1.1 g1.1
  have m4 := Int.mul_nonneg g2.1 g2.1
  have k1 : gapV px a1 a3 = 0 ↔ (a1 ≤ px ∧ px ≤ a3) := by unfold gapV; omega
  have k2 : gapV py a2 a4 = 0 ↔ (a2 ≤ py ∧ py ≤ a4) := by unfold gapV; omega
  constructor
  · rintro ⟨h1, h2, _⟩
    have s1 : gapV px a1 a3 * gapV px a1 a3 = 0 := by unfold hiOf loOf at *; omega
    have s2 : gapV py a2 a4 * gapV py a2 a4 = 0 := by unfold hiOf loOf at *; omega
    have := k1.1 (sq_zero s1); have := k2.1 (sq_zero s2)
    omega
  · intro h
    rw [k1.2 (by omega), k2.2 (by omega)]
    decide
theorem inside_eq (a1 a2 a3 a4 b1 b2 b3 b4 : Int) (hA : boxB (a1, a2, a3, a4) = true) (hB : boxB (b1, b2, b3, b4) = true) :
    (insideB a1 a2 a3 a4 b1 b2 b3 b4 && insideB b1 b2 b3 b4 a1 a2 a3 a4) = eq4 a1 a2 a3 a4 b1 b2 b3 b4 := by
  have hb := (boxB_iff _ _ _ _).1 hA; have hc := (boxB_iff _ _ _ _).1 hB
  unfold insideB hasB eq4
  rw [hA, hB, hb.1, hb.2.1, hc.1, hc.2.1, Bool.eq_iff_iff]
  simp only [Bool.true_and, Bool.and_eq_true, decide_eq_true_eq]
  omega

set_option maxHeartbeats 4000000 in
theorem meets_walk_ok (a1 a2 a3 a4 b1 b2 b3 b4 px py : Int) (w : World) (hA : boxB (a1, a2, a3, a4) = true) (hB : boxB (b1, b2, b3, b4) = true) (hp : okB (px, py) = true) :
    Calls Try.prog 4 #[.agg #[.int .i64 a1, .int .i64 a2, .int .i64 a3, .int .i64 a4], .agg #[.int .i64 b1, .int .i64 b2, .int .i64 b3, .int .i64 b4], .agg #[.int .i64 px, .int .i64 py]] w fun e w' => e = .returned (.bool true) ∧ Below w.heap.size w w' := by
  have q1 := meets_q a1 a2 a3 a4 b1 b2 b3 b4 hA hB
  have q2 := meets_comm a1 a2 a3 a4 b1 b2 b3 b4
  have q3 := meets_p a1 a2 a3 a4 b1 b2 b3 b4 px py
  have q4 := dist_zero a1 a2 a3 a4 px py hA hp
  have q5 := inside_eq a1 a2 a3 a4 b1 b2 b3 b4 hA hB
  have cA : boxCode a1 a2 a3 a4 = 0 := by simpa [boxB] using hA
  have cB : boxCode b1 b2 b3 b4 = 0 := by simpa [boxB] using hB
  have mx : ∀ x y : Int, (if x < y then y else x) = maxV x y := fun _ _ => rfl
  have c1 : (hasB a1 a2 a3 a4 (maxV a1 b1) (maxV a2 b2) = true ∧ hasB b1 b2 b3 b4 (maxV a1 b1) (maxV a2 b2) = true ∧ meetsB a1 a2 a3 a4 b1 b2 b3 b4 = true) ∨ (hasB a1 a2 a3 a4 (maxV a1 b1) (maxV a2 b2) = false ∧ meetsB a1 a2 a3 a4 b1 b2 b3 b4 = false) ∨
      (hasB a1 a2 a3 a4 (maxV a1 b1) (maxV a2 b2) = true ∧ hasB b1 b2 b3 b4 (maxV a1 b1) (maxV a2 b2) = false ∧ meetsB a1 a2 a3 a4 b1 b2 b3 b4 = false) := by
    rw [← q1]; cases hasB a1 a2 a3 a4 (maxV a1 b1) (maxV a2 b2) <;> cases hasB b1 b2 b3 b4 (maxV a1 b1) (maxV a2 b2) <;> simp
  have c2 : hasB a1 a2 a3 a4 px py = false ∨ (hasB a1 a2 a3 a4 px py = true ∧ hasB b1 b2 b3 b4 px py = false) ∨ (hasB a1 a2 a3 a4 px py = true ∧ hasB b1 b2 b3 b4 px py = true ∧ meetsB a1 a2 a3 a4 b1 b2 b3 b4 = true) := by
    cases k1 : hasB a1 a2 a3 a4 px py <;> cases k2 : hasB b1 b2 b3 b4 px py <;> simp
    exact q3 k1 k2
  have c3 : (insideB a1 a2 a3 a4 b1 b2 b3 b4 = true ∧ insideB b1 b2 b3 b4 a1 a2 a3 a4 = eq4 a1 a2 a3 a4 b1 b2 b3 b4) ∨ (insideB a1 a2 a3 a4 b1 b2 b3 b4 = false ∧ eq4 a1 a2 a3 a4 b1 b2 b3 b4 = false) := by
    rw [← q5]; cases insideB a1 a2 a3 a4 b1 b2 b3 b4 <;> simp
  clear q1 q3 q5
  rcases c1 with ⟨k1, k2, k3⟩ | ⟨k1, k3⟩ | ⟨k1, k2, k3⟩ <;> rcases c2 with k4 | ⟨k4, k5⟩ | ⟨k4, k5, k6⟩ <;> rcases c3 with ⟨k7, k8⟩ | ⟨k7, k8⟩ <;> try (exact absurd (k3.symm.trans k6) (by decide))
  all_goals
    go_enter Try.func4, Try.ntmps4
    go_wp2_with (first | (go_at_call 15; refine (rcheckBox_any _ _ _ _ _).mono ?_; rintro e w' ⟨rfl, hB⟩; obtain ⟨hc, hf⟩ := keep hB; have hz := hB.size; try simp at hz) | (go_at_call 13; refine (point_any _ _ _).mono ?_; rintro e w' ⟨rfl, hB⟩; obtain ⟨hc, hf⟩ := keep hB; have hz := hB.size; try simp at hz) | (go_at_call 18; refine (has_any _ _ _ _ _ _ _).mono ?_; rintro e w' ⟨rfl, hB⟩; obtain ⟨hc, hf⟩ := keep hB; have hz := hB.size; try simp at hz) | (go_at_call 16; refine (meets_any _ _ _ _ _ _ _ _ _).mono ?_; rintro e w' ⟨rfl, hB⟩; obtain ⟨hc, hf⟩ := keep hB; have hz := hB.size; try simp at hz) | (go_at_call 19; refine (dist_any _ _ _ _ _ _ _).mono ?_; rintro e w' ⟨rfl, hB⟩; obtain ⟨hc, hf⟩ := keep hB; have hz := hB.size; try simp at hz))
    (refine wp_region_text (by kernel_rfl) (by kernel_rfl) ?_; (repeat (first | (refine step_val (v := ?_) (by rfl) ?_ ?_; rotate_left; (· (intro z hz; obtain ⟨hc, hf⟩ := keep hz; go_simp; first | done | (with_reducible rfl))); (try simp only [Act.put, List.setIfInBounds_toArray, List.set_cons_zero, List.set_cons_succ])) | (refine step_skip (by rfl) ?_; (try simp only [Act.put, List.setIfInBounds_toArray, List.set_cons_zero, List.set_cons_succ])) | (refine step_call (v := ?_) (f := ?_) (args := ?_) (by rfl) ?_ ?_ ?_; rotate_left; rotate_left; rotate_left; (· (intro z hz; go_simp; first | done | (with_reducible rfl) | (constructor <;> with_reducible rfl))); (· (intro z hz; first | (go_at_call 18; refine (has_any _ _ _ _ _ _ _).mono ?_; rintro e w' ⟨rfl, hB⟩; refine ⟨?_, hz.trans (hB.mono hz.size)⟩; with_reducible rfl) | (go_at_call 20; refine (inside_any _ _ _ _ _ _ _ _ _).mono ?_; rintro e w' ⟨rfl, hB⟩; refine ⟨?_, hz.trans (hB.mono hz.size)⟩; with_reducible rfl) | (go_at_call 14; refine (awake_any _).mono ?_; rintro e w' ⟨rfl, hB⟩; refine ⟨?_, hz.trans (hB.mono hz.size)⟩; with_reducible rfl))); (try simp only [Act.put, List.setIfInBounds_toArray, List.set_cons_zero, List.set_cons_succ])))); refine steps_end ?_; intro w' hB; obtain ⟨hc, hf⟩ := keep hB; have hz := hB.size; try simp at hz)
    go_wp2
    go_ret
    exact ⟨rfl, by (repeat' (first | (with_reducible exact Below.refl _ _) | (with_reducible assumption) | (with_reducible refine Below.alloc ?_ ?_ _) | (with_reducible refine Below.drew ?_) | (with_reducible refine Below.setCell ?_ ?_ _) | (with_reducible refine below_call (by with_reducible assumption) ?_ ?_) | (first | (with_reducible exact Nat.le_refl _) | (with_reducible assumption) | omega | (simp; done) | (simp; omega))))⟩

set_option maxHeartbeats 4000000 in
theorem meets_walk_no (a1 a2 a3 a4 b1 b2 b3 b4 px py : Int) (w : World) (h : (boxB (a1, a2, a3, a4) && (boxB (b1, b2, b3, b4) && okB (px, py))) = false) :
    Calls Try.prog 4 #[.agg #[.int .i64 a1, .int .i64 a2, .int .i64 a3, .int .i64 a4], .agg #[.int .i64 b1, .int .i64 b2, .int .i64 b3, .int .i64 b4], .agg #[.int .i64 px, .int .i64 py]] w fun e w' => e = .returned (.bool true) ∧ Below w.heap.size w w' := by
  have c1 : ((boxCode a1 a2 a3 a4 != 0) = true ∧ meetsB a1 a2 a3 a4 b1 b2 b3 b4 = false) ∨ ((boxCode a1 a2 a3 a4 != 0) = false ∧ (boxCode b1 b2 b3 b4 != 0) = true ∧ meetsB a1 a2 a3 a4 b1 b2 b3 b4 = false) ∨ ((boxCode a1 a2 a3 a4 != 0) = false ∧ (boxCode b1 b2 b3 b4 != 0) = false ∧ okB (px, py) = false) := by
    unfold meetsB boxB at *
    dsimp only at *
    cases h1 : (boxCode a1 a2 a3 a4 == 0) <;> cases h2 : (boxCode b1 b2 b3 b4 == 0) <;> cases h3 : okB (px, py) <;> simp_all
  clear h
  rcases c1 with ⟨k1, k2⟩ | ⟨k1, k2, k3⟩ | ⟨k1, k2, k3⟩
  all_goals
    go_enter Try.func4, Try.ntmps4
    go_wp2_with (first | (go_at_call 15; refine (rcheckBox_any _ _ _ _ _).mono ?_; rintro e w' ⟨rfl, hB⟩; obtain ⟨hc, hf⟩ := keep hB; have hz := hB.size; try simp at hz) | (go_at_call 13; refine (point_any _ _ _).mono ?_; rintro e w' ⟨rfl, hB⟩; obtain ⟨hc, hf⟩ := keep hB; have hz := hB.size; try simp at hz))
    (refine wp_region_text (by kernel_rfl) (by kernel_rfl) ?_; (repeat (first | (refine step_val (v := ?_) (by rfl) ?_ ?_; rotate_left; (· (intro z hz; obtain ⟨hc, hf⟩ := keep hz; go_simp; first | done | (with_reducible rfl))); (try simp only [Act.put, List.setIfInBounds_toArray, List.set_cons_zero, List.set_cons_succ])) | (refine step_skip (by rfl) ?_; (try simp only [Act.put, List.setIfInBounds_toArray, List.set_cons_zero, List.set_cons_succ])) | (refine step_call (v := ?_) (f := ?_) (args := ?_) (by rfl) ?_ ?_ ?_; rotate_left; rotate_left; rotate_left; (· (intro z hz; go_simp; first | done | (with_reducible rfl) | (constructor <;> with_reducible rfl))); (· (intro z hz; first | (go_at_call 16; refine (meets_any _ _ _ _ _ _ _ _ _).mono ?_; rintro e w' ⟨rfl, hB⟩; refine ⟨?_, hz.trans (hB.mono hz.size)⟩; with_reducible rfl) | (go_at_call 17; refine (rmeets_any _ _ _ _ _ _ _ _ _).mono ?_; rintro e w' ⟨rfl, hB⟩; refine ⟨?_, hz.trans (hB.mono hz.size)⟩; with_reducible rfl) | (go_at_call 15; refine (rcheckBox_any _ _ _ _ _).mono ?_; rintro e w' ⟨rfl, hB⟩; refine ⟨?_, hz.trans (hB.mono hz.size)⟩; with_reducible rfl) | (go_at_call 14; refine (awake_any _).mono ?_; rintro e w' ⟨rfl, hB⟩; refine ⟨?_, hz.trans (hB.mono hz.size)⟩; with_reducible rfl))); (try simp only [Act.put, List.setIfInBounds_toArray, List.set_cons_zero, List.set_cons_succ])))); refine steps_end ?_; intro w' hB; obtain ⟨hc, hf⟩ := keep hB; have hz := hB.size; try simp at hz)
    go_wp2
    go_ret
    exact ⟨rfl, by (repeat' (first | (with_reducible exact Below.refl _ _) | (with_reducible assumption) | (with_reducible refine Below.alloc ?_ ?_ _) | (with_reducible refine Below.drew ?_) | (with_reducible refine Below.setCell ?_ ?_ _) | (with_reducible refine below_call (by with_reducible assumption) ?_ ?_) | (first | (with_reducible exact Nat.le_refl _) | (with_reducible assumption) | omega | (simp; done) | (simp; omega))))⟩

theorem meets_walk (a1 a2 a3 a4 b1 b2 b3 b4 px py : Int) (w : World) :
    Calls Try.prog 4 #[.agg #[.int .i64 a1, .int .i64 a2, .int .i64 a3, .int .i64 a4], .agg #[.int .i64 b1, .int .i64 b2, .int .i64 b3, .int .i64 b4], .agg #[.int .i64 px, .int .i64 py]] w fun e w' => e = .returned (.bool true) ∧ Below w.heap.size w w' := by
  cases h : (boxB (a1, a2, a3, a4) && (boxB (b1, b2, b3, b4) && okB (px, py)))
  · exact meets_walk_no a1 a2 a3 a4 b1 b2 b3 b4 px py w h
  · simp only [Bool.and_eq_true] at h
    exact meets_walk_ok a1 a2 a3 a4 b1 b2 b3 b4 px py w h.1 h.2.1 h.2.2

set_option maxRecDepth 100000 in
theorem meets_lifted (os : Os) (started : os.Started) (H : Type) (enc : TypeId × Value → H) :
    ReturnsInHanded {} Try.checked os 4 .any (Rows.planeMeetsSpec.pre6 enc Try.prog Try.f4 Rows.planeMeetsRow.domain false) (Rows.planeMeetsSpec.post enc Try.prog Try.f4 false true false false) := by
  refine returnsInHanded_of_change (C := Try.checked) own started (by kernel_rfl) Try.func4
    (ChangeSpec.witness6 (enc := enc) (C := Try.checked) false ⟨#[], #[.agg #[.int .i64 0, .int .i64 0, .int .i64 0, .int .i64 0], .agg #[.int .i64 0, .int .i64 0, .int .i64 0, .int .i64 0], .agg #[.int .i64 0, .int .i64 0]], []⟩ 8 (by kernel_rfl) (by kernel_rfl) (by kernel_rfl) (by kernel_rfl)) ?_
  intro W base args ds gs before hval0 hW _ _
  have hval : ∀ (j : Nat) t v, Try.f4.params[j]? = some t → args[j]? = some v → Value.okWide Try.prog W .any base t v := hval0
  have hW' := hW
  obtain ⟨p, q, hA0, hV, rfl, _, _⟩ := hW
  have hA : DataW.TrodAll enc Try.prog W 0 (fun _ => true) true Try.f4.params.toList args.toList ds p := hA0
  rw [Try.params4] at hA hval
  obtain ⟨v0, vs0, d0, ds0, p0, q0, hargs, rfl, rfl, h0, r0⟩ := trodAll_cons hA
  obtain ⟨v1, vs1, d1, ds1, p1, q1, rfl, rfl, rfl, h1, r1⟩ := trodAll_cons r0
  obtain ⟨v2, vs2, d2, ds2, p2, q2, rfl, rfl, rfl, h2, r2⟩ := trodAll_cons r1
  obtain ⟨rfl, rfl, rfl⟩ := trodAll_nil r2
  obtain rfl : args = #[v0, v1, v2] := by cases args; simp_all
  obtain ⟨rfl, rfl⟩ := trodVars_none hV
  obtain ⟨x0a, x0b, x0c, x0d, rfl, wx0a, wx0b, wx0c, wx0d⟩ := open_box (hval 0 29 v0 rfl rfl) h0
  obtain ⟨x1a, x1b, x1c, x1d, rfl, wx1a, wx1b, wx1c, wx1d⟩ := open_box (hval 1 29 v1 rfl rfl) h1
  obtain ⟨x2a, x2b, rfl, wx2a, wx2b⟩ := open_pt (hval 2 23 v2 rfl rfl) h2
  refine (meets_walk _ _ _ _ _ _ _ _ _ _ W).mono fun e W' ⟨he, hb⟩ => ?_
  subst he
  exact ⟨_, rfl, post_true laidOut (by kernel_rfl) rfl hW' hb (trodAll_mk1 (shut_bool Try.underlying4 _)) rfl rfl⟩

theorem meets_holds : Rows.PlaneMeetsSaid :=
  OpenClaim.holds_of_wide 4 Try.f4 rfl rfl rfl rfl rfl rfl rfl ⟨rfl, rfl, rfl, rfl, rfl⟩ rfl rfl rfl rfl rfl (by kernel_rfl) Try.func4 (by kernel_rfl)
    (of_decide_eq_true (by kernel_rfl)) (by unfold Func.isWrapper; rw [if_neg (of_decide_eq_false (by kernel_rfl))]; exact ⟨rfl, rfl⟩)
    (fun os started H enc _ => meets_lifted os started H enc)
#print axioms meets_holds
end Go.Proofs.Ytandehgdmefpaaa
