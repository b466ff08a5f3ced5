/- PlaneSquares: the square of a distance is the same both ways, 0 just at one point, and that of a right angle is the sum of its sides'. For every two points; no condition. -/
import Derived.Test.YtandehgdmefpaaaL3Awake
import Derived.Test.YtandehgdmefpaaaRefPt
import Derived.Test.YtandehgdmefpaaaRef1A
import Derived.Test.YtandehgdmefpaaaOpenPt
import Derived.Test.YtandehgdmefpaaaEq
import Derived.Test.YtandehgdmefpaaaRegion
namespace Go.Proofs.Ytandehgdmefpaaa
open Go.ChangeShapes Go.WideShapes Go.ChangeAt Go.RowKit

theorem sqN_sym (ax ay bx b_y : Int) : sqN bx b_y ax ay = sqN ax ay bx b_y := by
  unfold sqN
  rw [show ok2 (bx, b_y) (ax, ay) = ok2 (ax, ay) (bx, b_y) from by simp [ok2, Bool.and_comm]]
  split
  · rw [← Int.neg_mul_neg (bx - ax), ← Int.neg_mul_neg (b_y - ay), Int.neg_sub, Int.neg_sub]
  · rfl
theorem sqD_sym (ax ay bx b_y : Int) : sqD bx b_y ax ay = sqD ax ay bx b_y := by
  unfold sqD
  rw [show ok2 (bx, b_y) (ax, ay) = ok2 (ax, ay) (bx, b_y) from by simp [ok2, Bool.and_comm]]
theorem sqN_bd (ax ay bx b_y : Int) : 0 ≤ sqN ax ay bx b_y ∧ sqN ax ay bx b_y ≤ 9223372036854775808 := by
  unfold sqN
  split
  · rename_i h
    rw [ok2_iff, okB_iff, okB_iff] at h
    have h1 := mul_bd (M := 2147483646) (ax - bx) (ax - bx) (by omega) (by omega)
    have h2 := mul_bd (M := 2147483646) (ay - b_y) (ay - b_y) (by omega) (by omega)
    have h3 : 0 ≤ (ax - bx) * (ax - bx) := by rw [← absI_mul]; exact Int.mul_nonneg (by unfold absI; omega) (by unfold absI; omega)
    have h4 : 0 ≤ (ay - b_y) * (ay - b_y) := by rw [← absI_mul]; exact Int.mul_nonneg (by unfold absI; omega) (by unfold absI; omega)
    omega
  · omega
theorem sqN_parts (ax ay bx b_y : Int) (ha : okB (ax, ay) = true) (hb : okB (bx, b_y) = true) : sqN ax ay bx b_y = sqN ax ay bx ay + sqN bx ay bx b_y := by
  have hc : okB (bx, ay) = true := by rw [okB_iff] at *; omega
  unfold sqN
  simp only [ok2, ha, hb, hc, Bool.and_self, if_true, Int.sub_self, Int.mul_zero]
  omega
theorem sqN_zero (ax ay bx b_y : Int) (ha : okB (ax, ay) = true) (hb : okB (bx, b_y) = true) : eq3 (hiOf (sqN ax ay bx b_y)) (loOf (sqN ax ay bx b_y)) 1 0 0 1 = eq2 ax ay bx b_y := by
  have h0 := sqN_bd ax ay bx b_y
  have m1 := absI_mul (ax - bx)
  have m2 := absI_mul (ay - b_y)
  have g1 : 0 ≤ absI (ax - bx) := by unfold absI; omega
  have g2 : 0 ≤ absI (ay - b_y) := by unfold absI; omega
  have n1 := Int.mul_nonneg g1 g1
  have n2 := Int.mul_nonneg g2 g2
  have hN : sqN ax ay bx b_y = (ax - bx) * (ax - bx) + (ay - b_y) * (ay - b_y) := by unfold sqN; simp [ok2, ha, hb]
  unfold eq3 eq2
  rw [Bool.eq_iff_iff]
  simp only [Bool.and_eq_true, decide_eq_true_eq]
  constructor
  · rintro ⟨h1, h2, _⟩
    have hz : sqN ax ay bx b_y = 0 := by unfold hiOf loOf at *; omega
    have s1 : (ax - bx) * (ax - bx) = 0 := by omega
    have s2 : (ay - b_y) * (ay - b_y) = 0 := by omega
    have t1 : ax - bx = 0 := by rcases Int.mul_eq_zero.1 s1 with h | h <;> exact h
    have t2 : ay - b_y = 0 := by rcases Int.mul_eq_zero.1 s2 with h | h <;> exact h
    omega
  · rintro ⟨rfl, rfl⟩
    have hz : sqN ax ay ax ay = 0 := by rw [hN]; simp
    rw [hz]; decide
theorem dist_pt (ax ay bx b_y : Int) (ha : okB (ax, ay) = true) (hb : okB (bx, b_y) = true) : distN ax ay ax ay bx b_y = sqN ax ay bx b_y ∧ distD ax ay ax ay bx b_y = 1 := by
  have hB : boxB (ax, ay, ax, ay) = true := by rw [boxB_iff]; simp [ha]
  unfold distN distD distB sqN
  rw [hB, hb]
  simp only [ok2, ha, hb, Bool.and_self, if_true, and_true]
  have g1 : gapV bx ax ax = absI (ax - bx) := by unfold gapV absI; omega
  have g2 : gapV b_y ay ay = absI (ay - b_y) := by unfold gapV absI; omega
  rw [g1, g2, absI_mul, absI_mul]
theorem radd_big (m n : Int) (hm : Big m) (hn : Big n) (w : World) :
    Calls Try.prog 22 #[.agg #[.int .u64 (hiOf m), .int .u64 (loOf m)], .agg #[.int .u64 (hiOf n), .int .u64 (loOf n)]] w fun e w' => e = .returned (.tuple #[.agg #[.int .u64 (hiOf (m + n)), .int .u64 (loOf (m + n))], .bool (overB (m + n))]) ∧ Below w.heap.size w w' := by
  have h := radd_any (hiOf m) (loOf m) (hiOf n) (loOf n) (hiOf_word _) (loOf_word _) (hiOf_word _) (loOf_word _) w
  rw [num_hl hm, num_hl hn] at h
  exact h
theorem sqD_one (ax ay bx b_y : Int) (ha : okB (ax, ay) = true) (hb : okB (bx, b_y) = true) : sqD ax ay bx b_y = 1 := by unfold sqD; simp [ok2, ha, hb]

set_option maxHeartbeats 4000000 in
theorem squares_walk_ok (ax ay bx b_y : Int) (w : World) (ha : okB (ax, ay) = true) (hb : okB (bx, b_y) = true) :
    Calls Try.prog 5 #[.agg #[.int .i64 ax, .int .i64 ay], .agg #[.int .i64 bx, .int .i64 b_y]] w fun e w' => e = .returned (.bool true) ∧ Below w.heap.size w w' := by
  have hc : okB (bx, ay) = true := by rw [okB_iff] at *; omega
  have d1 := sqD_one ax ay bx ay ha hc
  have d2 := sqD_one bx ay bx b_y hc hb
  have d3 := sqD_one ax ay bx b_y ha hb
  have d4 := sqD_one bx b_y ax ay hb ha
  have n1 := sqN_bd ax ay bx ay
  have n2 := sqN_bd bx ay bx b_y
  have b1 : Big (sqN ax ay bx ay) := by unfold Big; omega
  have b2 : Big (sqN bx ay bx b_y) := by unfold Big; omega
  have ov : overB (sqN ax ay bx ay + sqN bx ay bx b_y) = false := by unfold overB; simp; omega
  have z := sqN_zero ax ay bx b_y ha hb
  have e1 := sqN_parts ax ay bx b_y ha hb
  have e2 := sqN_sym ax ay bx b_y
  obtain ⟨e3, d5⟩ := dist_pt ax ay bx b_y ha hb
  rw [e1] at z e2 e3
  clear n1 n2
  go_enter Try.func5, Try.ntmps5
  go_wp2_with fail
  refine (point_any _ _ _).mono ?_; rintro e w1 ⟨rfl, hB1⟩; obtain ⟨hc1, hf1⟩ := keep hB1; have hz1 := hB1.size; try simp at hz1
  go_wp2_with fail
  refine (point_any _ _ _).mono ?_; rintro e w2 ⟨rfl, hB2⟩; obtain ⟨hc2, hf2⟩ := keep hB2; have hz2 := hB2.size; try simp at hz2
  go_wp2_with fail
  refine (square_any _ _ _ _ _).mono ?_; rintro e w3 ⟨rfl, hB3⟩; obtain ⟨hc3, hf3⟩ := keep hB3; have hz3 := hB3.size; try simp at hz3
  go_wp2_with fail
  refine (square_any _ _ _ _ _).mono ?_; rintro e w4 ⟨rfl, hB4⟩; obtain ⟨hc4, hf4⟩ := keep hB4; have hz4 := hB4.size; try simp at hz4
  go_wp2_with fail
  go_region_held3 (fun z => z.cell? ⟨w3.heap.size, 0, none⟩ = some (.int .u64 (hiOf (sqN ax ay bx ay))) ∧ z.cell? ⟨w3.heap.size, 1, none⟩ = some (.int .u64 (loOf (sqN ax ay bx ay))) ∧ z.cell? ⟨w3.heap.size, 2, none⟩ = some (.int .u64 1)
      ∧ z.cell? ⟨w4.heap.size, 0, none⟩ = some (.int .u64 (hiOf (sqN bx ay bx b_y))) ∧ z.cell? ⟨w4.heap.size, 1, none⟩ = some (.int .u64 (loOf (sqN bx ay bx b_y))) ∧ z.cell? ⟨w4.heap.size, 2, none⟩ = some (.int .u64 1)) (simp [*, go_sem])
    (first | (go_at_call 23; refine (num_any _ _ _ _).mono ?_; rintro e w' ⟨rfl, hB⟩; obtain ⟨hc, hf⟩ := keep hB; have hz := hB.size; try simp at hz) | (go_at_call 22; refine (radd_big _ _ b1 b2 _).mono ?_; rintro e w' ⟨rfl, hB⟩; obtain ⟨hc, hf⟩ := keep hB; have hz := hB.size; try simp at hz))
  all_goals
    go_wp2_with (go_at_call 21; refine (square_any _ _ _ _ _).mono ?_; rintro e w' ⟨rfl, hB⟩; obtain ⟨hc, hf⟩ := keep hB; have hz := hB.size; try simp at hz)
    (refine wp_region_text (by kernel_rfl) (by kernel_rfl) ?_; (repeat (first | (refine step_val (v := ?_) (by rfl) ?_ ?_; rotate_left; (· (intro z hz; obtain ⟨hc, hf⟩ := keep hz; go_simp; first | done | (with_reducible rfl))); (try simp only [Act.put, List.setIfInBounds_toArray, List.set_cons_zero, List.set_cons_succ])) | (refine step_skip (by rfl) ?_; (try simp only [Act.put, List.setIfInBounds_toArray, List.set_cons_zero, List.set_cons_succ])) | (refine step_call (v := ?_) (f := ?_) (args := ?_) (by rfl) ?_ ?_ ?_; rotate_left; rotate_left; rotate_left; (· (intro z hz; go_simp; first | done | (with_reducible rfl) | (constructor <;> with_reducible rfl))); (· (intro z hz; first | (go_at_call 21; refine (square_any _ _ _ _ _).mono ?_; rintro e w' ⟨rfl, hB⟩; refine ⟨?_, hz.trans (hB.mono hz.size)⟩; with_reducible rfl) | (go_at_call 19; refine (dist_any _ _ _ _ _ _ _).mono ?_; rintro e w' ⟨rfl, hB⟩; refine ⟨?_, hz.trans (hB.mono hz.size)⟩; with_reducible rfl) | (go_at_call 23; refine (num_any _ _ _ _).mono ?_; rintro e w' ⟨rfl, hB⟩; refine ⟨?_, hz.trans (hB.mono hz.size)⟩; with_reducible rfl) | (go_at_call 14; refine (awake_any _).mono ?_; rintro e w' ⟨rfl, hB⟩; refine ⟨?_, hz.trans (hB.mono hz.size)⟩; with_reducible rfl))); (try simp only [Act.put, List.setIfInBounds_toArray, List.set_cons_zero, List.set_cons_succ])))); refine steps_end ?_; intro w' hB; obtain ⟨hc, hf⟩ := keep hB; have hz := hB.size; try simp at hz)
    go_wp2
    go_ret
    exact ⟨rfl, by (repeat' (first | (with_reducible exact Below.refl _ _) | (with_reducible assumption) | (with_reducible refine Below.alloc ?_ ?_ _) | (with_reducible refine Below.drew ?_) | (with_reducible refine Below.setCell ?_ ?_ _) | (with_reducible refine below_call (by with_reducible assumption) ?_ ?_) | (first | (with_reducible exact Nat.le_refl _) | (with_reducible assumption) | omega | (simp; done) | (simp; omega))))⟩

theorem hi0 : hiOf 0 = 0 := rfl
theorem lo0 : loOf 0 = 0 := rfl
set_option maxHeartbeats 1000000 in
theorem squares_walk_no (ax ay bx b_y : Int) (w : World) (h : (okB (ax, ay) && okB (bx, b_y)) = false) :
    Calls Try.prog 5 #[.agg #[.int .i64 ax, .int .i64 ay], .agg #[.int .i64 bx, .int .i64 b_y]] w fun e w' => e = .returned (.bool true) ∧ Below w.heap.size w w' := by
  have n0 : sqN ax ay bx b_y = 0 := by unfold sqN; rw [show ok2 (ax, ay) (bx, b_y) = false from h]; rfl
  have d0 : sqD ax ay bx b_y = 0 := by unfold sqD; rw [show ok2 (ax, ay) (bx, b_y) = false from h]; rfl
  have h0 := hi0
  have l0 := lo0
  have c : okB (ax, ay) = false ∨ (okB (ax, ay) = true ∧ okB (bx, b_y) = false) := by
    cases h1 : okB (ax, ay) <;> cases h2 : okB (bx, b_y) <;> simp_all
  clear h
  rcases c with k1 | ⟨k1, k2⟩
  all_goals
    go_enter Try.func5, Try.ntmps5
    go_wp2_with (first | (go_at_call 13; refine (point_any _ _ _).mono ?_; rintro e w' ⟨rfl, hB⟩; obtain ⟨hc, hf⟩ := keep hB; have hz := hB.size; try simp at hz) | (go_at_call 21; refine (square_any _ _ _ _ _).mono ?_; rintro e w' ⟨rfl, hB⟩; obtain ⟨hc, hf⟩ := keep hB; have hz := hB.size; try simp at hz) | (go_at_call 14; refine (awake_any _).mono ?_; rintro e w' ⟨rfl, hB⟩; obtain ⟨hc, hf⟩ := keep hB; have hz := hB.size; try simp at hz))
    go_ret
    exact ⟨rfl, by (repeat' (first | (with_reducible exact Below.refl _ _) | (with_reducible assumption) | (with_reducible refine Below.alloc ?_ ?_ _) | (with_reducible refine Below.drew ?_) | (with_reducible refine Below.setCell ?_ ?_ _) | (with_reducible refine below_call (by with_reducible assumption) ?_ ?_) | (first | (with_reducible exact Nat.le_refl _) | (with_reducible assumption) | omega | (simp; done) | (simp; omega))))⟩

theorem squares_walk (ax ay bx b_y : Int) (w : World) :
    Calls Try.prog 5 #[.agg #[.int .i64 ax, .int .i64 ay], .agg #[.int .i64 bx, .int .i64 b_y]] w fun e w' => e = .returned (.bool true) ∧ Below w.heap.size w w' := by
  cases h : (okB (ax, ay) && okB (bx, b_y))
  · exact squares_walk_no ax ay bx b_y w h
  · simp only [Bool.and_eq_true] at h
    exact squares_walk_ok ax ay bx b_y w h.1 h.2

set_option maxRecDepth 100000 in
theorem psquares_lifted (os : Os) (started : os.Started) (H : Type) (enc : TypeId × Value → H) :
    ReturnsInHanded {} Try.checked os 5 .any (Rows.planeSquaresSpec.pre6 enc Try.prog Try.f5 Rows.planeSquaresRow.domain false) (Rows.planeSquaresSpec.post enc Try.prog Try.f5 false true false false) := by
  refine returnsInHanded_of_change (C := Try.checked) own started (by kernel_rfl) Try.func5
    (ChangeSpec.witness6 (enc := enc) (C := Try.checked) false ⟨#[], #[.agg #[.int .i64 0, .int .i64 0], .agg #[.int .i64 0, .int .i64 0]], []⟩ 8 (by kernel_rfl) (by kernel_rfl) (by kernel_rfl) (by kernel_rfl)) ?_
  intro W base args ds gs before hval0 hW _ _
  have hval : ∀ (j : Nat) t v, Try.f5.params[j]? = some t → args[j]? = some v → Value.okWide Try.prog W .any base t v := hval0
  have hW' := hW
  obtain ⟨p, q, hA0, hV, rfl, _, _⟩ := hW
  have hA : DataW.TrodAll enc Try.prog W 0 (fun _ => true) true Try.f5.params.toList args.toList ds p := hA0
  rw [Try.params5] at hA hval
  obtain ⟨v0, vs0, d0, ds0, p0, q0, hargs, rfl, rfl, h0, r0⟩ := trodAll_cons hA
  obtain ⟨v1, vs1, d1, ds1, p1, q1, rfl, rfl, rfl, h1, r1⟩ := trodAll_cons r0
  obtain ⟨rfl, rfl, rfl⟩ := trodAll_nil r1
  obtain rfl : args = #[v0, v1] := by cases args; simp_all
  obtain ⟨rfl, rfl⟩ := trodVars_none hV
  obtain ⟨x0a, x0b, rfl, wx0a, wx0b⟩ := open_pt (hval 0 23 v0 rfl rfl) h0
  obtain ⟨x1a, x1b, rfl, wx1a, wx1b⟩ := open_pt (hval 1 23 v1 rfl rfl) h1
  refine (squares_walk _ _ _ _ W).mono fun e W' ⟨he, hb⟩ => ?_
  subst he
  exact ⟨_, rfl, post_true laidOut (by kernel_rfl) rfl hW' hb (trodAll_mk1 (shut_bool Try.underlying4 _)) rfl rfl⟩

theorem psquares_holds : Rows.PlaneSquaresSaid :=
  OpenClaim.holds_of_wide 5 Try.f5 rfl rfl rfl rfl rfl rfl rfl ⟨rfl, rfl, rfl, rfl, rfl⟩ rfl rfl rfl rfl rfl (by kernel_rfl) Try.func5 (by kernel_rfl)
    (of_decide_eq_true (by kernel_rfl)) (by unfold Func.isWrapper; rw [if_neg (of_decide_eq_false (by kernel_rfl))]; exact ⟨rfl, rfl⟩)
    (fun os started H enc _ => psquares_lifted os started H enc)
#print axioms psquares_holds
end Go.Proofs.Ytandehgdmefpaaa
