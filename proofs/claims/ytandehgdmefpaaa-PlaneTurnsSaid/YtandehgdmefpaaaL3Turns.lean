/- PlaneTurns: turned round, three points are on the other side; moved on in a circle they stay; nothing runs over at the ends of the plane. For every three points; no condition. -/
import Derived.Test.YtandehgdmefpaaaL3Awake
import Derived.Test.YtandehgdmefpaaaRefPt
import Derived.Test.YtandehgdmefpaaaOpenPt
namespace Go.Proofs.Ytandehgdmefpaaa
open Go.ChangeShapes Go.WideShapes Go.ChangeAt Go.RowKit

theorem ok3_rot (a b c : Int × Int) : ok3 b c a = ok3 a b c := by simp [ok3, Bool.and_comm, Bool.and_left_comm]
theorem ok3_swap (a b c : Int × Int) : ok3 b a c = ok3 a b c := by simp [ok3, Bool.and_left_comm]
theorem crossV_rot (a b c : Int × Int) : crossV b c a = crossV a b c := by
  unfold crossV; rw [ok3_rot]; split
  · grind
  · rfl
theorem crossV_swap (a b c : Int × Int) : crossV b a c = -crossV a b c := by
  unfold crossV; rw [ok3_swap]; split
  · grind
  · rfl
theorem crossV_same (a b : Int × Int) : crossV a a b = 0 := by
  have := crossV_swap a a b; omega
theorem cmpV_neg (x : Int) : cmpV (-x) 0 = -cmpV x 0 := by unfold cmpV; omega
theorem cmpV_bd (x y : Int) : -1 ≤ cmpV x y ∧ cmpV x y ≤ 1 := by unfold cmpV; omega
theorem cmpV_pos (x : Int) : (decide (0 < x) == decide (0 < cmpV x 0)) = true := by
  rw [beq_iff_eq, decide_eq_decide]; unfold cmpV; omega
theorem cmpV_zero (x : Int) : ((x == 0) == (cmpV x 0 == 0)) = true := by
  rw [beq_iff_eq, Bool.eq_iff_iff]; simp only [beq_iff_eq]; unfold cmpV; omega

set_option maxHeartbeats 1000000 in
theorem turns_walk (ax ay bx b_y cx cy : Int) (w : World) :
    Calls Try.prog 3 #[.agg #[.int .i64 ax, .int .i64 ay], .agg #[.int .i64 bx, .int .i64 b_y], .agg #[.int .i64 cx, .int .i64 cy]] w fun e w' => e = .returned (.bool true) ∧ Below w.heap.size w w' := by
  have t1 := crossV_rot (ax, ay) (bx, b_y) (cx, cy)
  have t2 : crossV (cx, cy) (ax, ay) (bx, b_y) = crossV (ax, ay) (bx, b_y) (cx, cy) := by rw [← crossV_rot, ← crossV_rot]
  have t3 := crossV_swap (ax, ay) (bx, b_y) (cx, cy)
  have t4 : crossV (ax, ay) (cx, cy) (bx, b_y) = -crossV (ax, ay) (bx, b_y) (cx, cy) := by rw [crossV_swap, t2]
  have t5 := crossV_same (ax, ay) (bx, b_y)
  obtain ⟨x1, x2⟩ := crossV_bd (ax, ay) (bx, b_y) (cx, cy)
  have t6 := cmpV_neg (crossV (ax, ay) (bx, b_y) (cx, cy))
  obtain ⟨k1, k2⟩ := cmpV_bd (crossV (ax, ay) (bx, b_y) (cx, cy)) 0
  have t7 := cmpV_pos (crossV (ax, ay) (bx, b_y) (cx, cy))
  have t8 := cmpV_zero (crossV (ax, ay) (bx, b_y) (cx, cy))
  have t9 : cmpV 0 0 = 0 := rfl
  cases ha : okB (ax, ay) <;> cases hb : okB (bx, b_y) <;> cases hc : okB (cx, cy)
  case true.true.true =>
    go_enter Try.func3, Try.ntmps3
    go_wp2_with (first | (go_at_call 11; (first | (refine (cum hB (by (repeat' (first | (with_reducible exact Below.refl _ _) | (with_reducible assumption) | (with_reducible refine Below.alloc ?_ ?_ _) | (with_reducible refine Below.drew ?_) | (with_reducible refine Below.setCell ?_ ?_ _) | (with_reducible refine below_call (by with_reducible assumption) ?_ ?_) | (first | (with_reducible exact Nat.le_refl _) | (with_reducible assumption) | omega | (simp; done) | (simp; omega))))) (cross_any _ _ _ _ _ _ _)).mono ?_; clear hB hc hf) | (refine (cross_any _ _ _ _ _ _ _).mono ?_)); rintro e w' ⟨rfl, hB⟩; obtain ⟨hc, hf⟩ := bcell hB; have hz := hB.size; try simp at hz; try (have hz0 : w.heap.size < w'.heap.size := by omega); try (have hz1 : w.heap.size + 1 < w'.heap.size := by omega); try (have hz2 : w.heap.size + 1 + 1 < w'.heap.size := by omega); try (have hz3 : w.heap.size + 1 + 1 + 1 < w'.heap.size := by omega)) | (go_at_call 12; (first | (refine (cum hB (by (repeat' (first | (with_reducible exact Below.refl _ _) | (with_reducible assumption) | (with_reducible refine Below.alloc ?_ ?_ _) | (with_reducible refine Below.drew ?_) | (with_reducible refine Below.setCell ?_ ?_ _) | (with_reducible refine below_call (by with_reducible assumption) ?_ ?_) | (first | (with_reducible exact Nat.le_refl _) | (with_reducible assumption) | omega | (simp; done) | (simp; omega))))) (orient_any _ _ _ _ _ _ _)).mono ?_; clear hB hc hf) | (refine (orient_any _ _ _ _ _ _ _).mono ?_)); rintro e w' ⟨rfl, hB⟩; obtain ⟨hc, hf⟩ := bcell hB; have hz := hB.size; try simp at hz; try (have hz0 : w.heap.size < w'.heap.size := by omega); try (have hz1 : w.heap.size + 1 < w'.heap.size := by omega); try (have hz2 : w.heap.size + 1 + 1 < w'.heap.size := by omega); try (have hz3 : w.heap.size + 1 + 1 + 1 < w'.heap.size := by omega)) | (go_at_call 13; (first | (refine (cum hB (by (repeat' (first | (with_reducible exact Below.refl _ _) | (with_reducible assumption) | (with_reducible refine Below.alloc ?_ ?_ _) | (with_reducible refine Below.drew ?_) | (with_reducible refine Below.setCell ?_ ?_ _) | (with_reducible refine below_call (by with_reducible assumption) ?_ ?_) | (first | (with_reducible exact Nat.le_refl _) | (with_reducible assumption) | omega | (simp; done) | (simp; omega))))) (point_any _ _ _)).mono ?_; clear hB hc hf) | (refine (point_any _ _ _).mono ?_)); rintro e w' ⟨rfl, hB⟩; obtain ⟨hc, hf⟩ := bcell hB; have hz := hB.size; try simp at hz; try (have hz0 : w.heap.size < w'.heap.size := by omega); try (have hz1 : w.heap.size + 1 < w'.heap.size := by omega); try (have hz2 : w.heap.size + 1 + 1 < w'.heap.size := by omega); try (have hz3 : w.heap.size + 1 + 1 + 1 < w'.heap.size := by omega)) | (go_at_call 14; (first | (refine (cum hB (by (repeat' (first | (with_reducible exact Below.refl _ _) | (with_reducible assumption) | (with_reducible refine Below.alloc ?_ ?_ _) | (with_reducible refine Below.drew ?_) | (with_reducible refine Below.setCell ?_ ?_ _) | (with_reducible refine below_call (by with_reducible assumption) ?_ ?_) | (first | (with_reducible exact Nat.le_refl _) | (with_reducible assumption) | omega | (simp; done) | (simp; omega))))) (awake_any _)).mono ?_; clear hB hc hf) | (refine (awake_any _).mono ?_)); rintro e w' ⟨rfl, hB⟩; obtain ⟨hc, hf⟩ := bcell hB; have hz := hB.size; try simp at hz; try (have hz0 : w.heap.size < w'.heap.size := by omega); try (have hz1 : w.heap.size + 1 < w'.heap.size := by omega); try (have hz2 : w.heap.size + 1 + 1 < w'.heap.size := by omega); try (have hz3 : w.heap.size + 1 + 1 + 1 < w'.heap.size := by omega)))
    go_ret
    exact ⟨rfl, by (repeat' (first | (with_reducible exact Below.refl _ _) | (with_reducible assumption) | (with_reducible refine Below.alloc ?_ ?_ _) | (with_reducible refine Below.drew ?_) | (with_reducible refine Below.setCell ?_ ?_ _) | (with_reducible refine below_call (by with_reducible assumption) ?_ ?_) | (first | (with_reducible exact Nat.le_refl _) | (with_reducible assumption) | omega | (simp; done) | (simp; omega))))⟩
  all_goals
    have hz : crossV (ax, ay) (bx, b_y) (cx, cy) = 0 := by simp [crossV, ok3, ha, hb, hc]
    clear t1 t2 t3 t4 t5 t6 t7 t8 x1 x2 k1 k2
    go_enter Try.func3, Try.ntmps3
    go_wp2_with (first | (go_at_call 11; (first | (refine (cum hB (by (repeat' (first | (with_reducible exact Below.refl _ _) | (with_reducible assumption) | (with_reducible refine Below.alloc ?_ ?_ _) | (with_reducible refine Below.drew ?_) | (with_reducible refine Below.setCell ?_ ?_ _) | (with_reducible refine below_call (by with_reducible assumption) ?_ ?_) | (first | (with_reducible exact Nat.le_refl _) | (with_reducible assumption) | omega | (simp; done) | (simp; omega))))) (cross_any _ _ _ _ _ _ _)).mono ?_; clear hB hc hf) | (refine (cross_any _ _ _ _ _ _ _).mono ?_)); rintro e w' ⟨rfl, hB⟩; obtain ⟨hc, hf⟩ := bcell hB; have hz := hB.size; try simp at hz; try (have hz0 : w.heap.size < w'.heap.size := by omega); try (have hz1 : w.heap.size + 1 < w'.heap.size := by omega); try (have hz2 : w.heap.size + 1 + 1 < w'.heap.size := by omega); try (have hz3 : w.heap.size + 1 + 1 + 1 < w'.heap.size := by omega)) | (go_at_call 12; (first | (refine (cum hB (by (repeat' (first | (with_reducible exact Below.refl _ _) | (with_reducible assumption) | (with_reducible refine Below.alloc ?_ ?_ _) | (with_reducible refine Below.drew ?_) | (with_reducible refine Below.setCell ?_ ?_ _) | (with_reducible refine below_call (by with_reducible assumption) ?_ ?_) | (first | (with_reducible exact Nat.le_refl _) | (with_reducible assumption) | omega | (simp; done) | (simp; omega))))) (orient_any _ _ _ _ _ _ _)).mono ?_; clear hB hc hf) | (refine (orient_any _ _ _ _ _ _ _).mono ?_)); rintro e w' ⟨rfl, hB⟩; obtain ⟨hc, hf⟩ := bcell hB; have hz := hB.size; try simp at hz; try (have hz0 : w.heap.size < w'.heap.size := by omega); try (have hz1 : w.heap.size + 1 < w'.heap.size := by omega); try (have hz2 : w.heap.size + 1 + 1 < w'.heap.size := by omega); try (have hz3 : w.heap.size + 1 + 1 + 1 < w'.heap.size := by omega)) | (go_at_call 13; (first | (refine (cum hB (by (repeat' (first | (with_reducible exact Below.refl _ _) | (with_reducible assumption) | (with_reducible refine Below.alloc ?_ ?_ _) | (with_reducible refine Below.drew ?_) | (with_reducible refine Below.setCell ?_ ?_ _) | (with_reducible refine below_call (by with_reducible assumption) ?_ ?_) | (first | (with_reducible exact Nat.le_refl _) | (with_reducible assumption) | omega | (simp; done) | (simp; omega))))) (point_any _ _ _)).mono ?_; clear hB hc hf) | (refine (point_any _ _ _).mono ?_)); rintro e w' ⟨rfl, hB⟩; obtain ⟨hc, hf⟩ := bcell hB; have hz := hB.size; try simp at hz; try (have hz0 : w.heap.size < w'.heap.size := by omega); try (have hz1 : w.heap.size + 1 < w'.heap.size := by omega); try (have hz2 : w.heap.size + 1 + 1 < w'.heap.size := by omega); try (have hz3 : w.heap.size + 1 + 1 + 1 < w'.heap.size := by omega)) | (go_at_call 14; (first | (refine (cum hB (by (repeat' (first | (with_reducible exact Below.refl _ _) | (with_reducible assumption) | (with_reducible refine Below.alloc ?_ ?_ _) | (with_reducible refine Below.drew ?_) | (with_reducible refine Below.setCell ?_ ?_ _) | (with_reducible refine below_call (by with_reducible assumption) ?_ ?_) | (first | (with_reducible exact Nat.le_refl _) | (with_reducible assumption) | omega | (simp; done) | (simp; omega))))) (awake_any _)).mono ?_; clear hB hc hf) | (refine (awake_any _).mono ?_)); rintro e w' ⟨rfl, hB⟩; obtain ⟨hc, hf⟩ := bcell hB; have hz := hB.size; try simp at hz; try (have hz0 : w.heap.size < w'.heap.size := by omega); try (have hz1 : w.heap.size + 1 < w'.heap.size := by omega); try (have hz2 : w.heap.size + 1 + 1 < w'.heap.size := by omega); try (have hz3 : w.heap.size + 1 + 1 + 1 < w'.heap.size := by omega)))
    go_ret
    exact ⟨rfl, by (repeat' (first | (with_reducible exact Below.refl _ _) | (with_reducible assumption) | (with_reducible refine Below.alloc ?_ ?_ _) | (with_reducible refine Below.drew ?_) | (with_reducible refine Below.setCell ?_ ?_ _) | (with_reducible refine below_call (by with_reducible assumption) ?_ ?_) | (first | (with_reducible exact Nat.le_refl _) | (with_reducible assumption) | omega | (simp; done) | (simp; omega))))⟩

set_option maxRecDepth 100000 in
theorem turns_lifted (os : Os) (started : os.Started) (H : Type) (enc : TypeId × Value → H) :
    ReturnsInHanded {} Try.checked os 3 .any (Rows.planeTurnsSpec.pre6 enc Try.prog Try.f3 Rows.planeTurnsRow.domain false) (Rows.planeTurnsSpec.post enc Try.prog Try.f3 false true false false) := by
  refine returnsInHanded_of_change (C := Try.checked) own started (by kernel_rfl) Try.func3
    (ChangeSpec.witness6 (enc := enc) (C := Try.checked) false ⟨#[], #[.agg #[.int .i64 0, .int .i64 0], .agg #[.int .i64 0, .int .i64 0], .agg #[.int .i64 0, .int .i64 0]], []⟩ 8 (by kernel_rfl) (by kernel_rfl) (by kernel_rfl) (by kernel_rfl)) ?_
  intro W base args ds gs before hval0 hW _ _
  have hval : ∀ (j : Nat) t v, Try.f3.params[j]? = some t → args[j]? = some v → Value.okWide Try.prog W .any base t v := hval0
  have hW' := hW
  obtain ⟨p, q, hA0, hV, rfl, _, _⟩ := hW
  have hA : DataW.TrodAll enc Try.prog W 0 (fun _ => true) true Try.f3.params.toList args.toList ds p := hA0
  rw [Try.params3] at hA hval
  obtain ⟨v0, vs0, d0, ds0, p0, q0, hargs, rfl, rfl, h0, r0⟩ := trodAll_cons hA
  obtain ⟨v1, vs1, d1, ds1, p1, q1, rfl, rfl, rfl, h1, r1⟩ := trodAll_cons r0
  obtain ⟨v2, vs2, d2, ds2, p2, q2, rfl, rfl, rfl, h2, r2⟩ := trodAll_cons r1
  obtain ⟨rfl, rfl, rfl⟩ := trodAll_nil r2
  obtain rfl : args = #[v0, v1, v2] := by cases args; simp_all
  obtain ⟨rfl, rfl⟩ := trodVars_none hV
  obtain ⟨x0a, x0b, rfl, wx0a, wx0b⟩ := open_pt (hval 0 23 v0 rfl rfl) h0
  obtain ⟨x1a, x1b, rfl, wx1a, wx1b⟩ := open_pt (hval 1 23 v1 rfl rfl) h1
  obtain ⟨x2a, x2b, rfl, wx2a, wx2b⟩ := open_pt (hval 2 23 v2 rfl rfl) h2
  refine (turns_walk _ _ _ _ _ _ W).mono fun e W' ⟨he, hb⟩ => ?_
  subst he
  exact ⟨_, rfl, post_true laidOut (by kernel_rfl) rfl hW' hb (trodAll_mk1 (shut_bool Try.underlying4 _)) rfl rfl⟩

theorem turns_holds : Rows.PlaneTurnsSaid :=
  OpenClaim.holds_of_wide 3 Try.f3 rfl rfl rfl rfl rfl rfl rfl ⟨rfl, rfl, rfl, rfl, rfl⟩ rfl rfl rfl rfl rfl (by kernel_rfl) Try.func3 (by kernel_rfl)
    (of_decide_eq_true (by kernel_rfl)) (by unfold Func.isWrapper; rw [if_neg (of_decide_eq_false (by kernel_rfl))]; exact ⟨rfl, rfl⟩)
    (fun os started H enc _ => turns_lifted os started H enc)
#print axioms turns_holds
end Go.Proofs.Ytandehgdmefpaaa
