/- pergolaref3: Proper, Meet. -/
import Derived.Test.YtocpdphchignpaaRefSegA
import Derived.Test.YtocpdphchignpaaRegion
namespace Go.Proofs.Ytocpdphchignpaa
open Go.RowKit

theorem oriV_no {a b c : Int × Int} (h : ok3 a b c = false) : oriV a b c = 0 := by
  unfold oriV crossV; rw [h]; rfl
theorem oriV_ok {a b c d : Int × Int} (h : oriV a b c * oriV a b d < 0) : ok4 a b c d = true := by
  cases h1 : ok3 a b c
  · rw [oriV_no h1] at h; simp at h
  · cases h2 : ok3 a b d
    · rw [oriV_no h2] at h; simp at h
    · rw [ok3_iff] at h1 h2
      unfold ok4
      simp [h1, h2]
theorem properV_eq (a b c d : Int × Int) : properV a b c d = (decide (oriV a b c * oriV a b d < 0) && decide (oriV c d a * oriV c d b < 0)) := by
  unfold properV
  by_cases h : oriV a b c * oriV a b d < 0
  · rw [oriV_ok h]; rfl
  · simp [h]
theorem rori_any (ax ay bx b_y cx cy : Int) (w : World) :
    Calls Try.prog 18 #[.agg #[.int .i64 ax, .int .i64 ay], .agg #[.int .i64 bx, .int .i64 b_y], .agg #[.int .i64 cx, .int .i64 cy]] w fun e w' => e = .returned (.int .i64 (oriV (ax, ay) (bx, b_y) (cx, cy))) ∧ Below w.heap.size w w' := rorient_any ax ay bx b_y cx cy w

set_option maxHeartbeats 1000000 in
theorem rproper_any (ax ay bx b_y cx cy dx dy : Int) (w : World) :
    Calls Try.prog 21 #[.agg #[.int .i64 ax, .int .i64 ay], .agg #[.int .i64 bx, .int .i64 b_y], .agg #[.int .i64 cx, .int .i64 cy], .agg #[.int .i64 dx, .int .i64 dy]] w fun e w' => e = .returned (.bool (properV (ax, ay) (bx, b_y) (cx, cy) (dx, dy))) ∧ Below w.heap.size w w' := by
  have p1 := ori_wrap (ax, ay) (bx, b_y) (cx, cy) (ax, ay) (bx, b_y) (dx, dy)
  have q1 := ori_wrap (cx, cy) (dx, dy) (ax, ay) (cx, cy) (dx, dy) (bx, b_y)
  rw [properV_eq]
  by_cases hP : oriV (ax, ay) (bx, b_y) (cx, cy) * oriV (ax, ay) (bx, b_y) (dx, dy) < 0
  · have hd : decide (oriV (ax, ay) (bx, b_y) (cx, cy) * oriV (ax, ay) (bx, b_y) (dx, dy) < 0) = true := by simpa using hP
    rw [hd, Bool.true_and]
    clear hd
    go_enter Try.func21, Try.ntmps21
    go_wp2_with fail
    (refine wp_region_text (by kernel_rfl) (by kernel_rfl) ?_; (repeat (first | (refine step_val (v := ?_) (by rfl) ?_ ?_; rotate_left; (· (intro z hz; obtain ⟨hc, hf⟩ := keep hz; go_simp; first | done | (with_reducible rfl))); (try simp only [Act.put, List.setIfInBounds_toArray, List.set_cons_zero, List.set_cons_succ])) | (refine step_skip (by rfl) ?_; (try simp only [Act.put, List.setIfInBounds_toArray, List.set_cons_zero, List.set_cons_succ])) | (refine step_call (v := ?_) (f := ?_) (args := ?_) (by rfl) ?_ ?_ ?_; rotate_left; rotate_left; rotate_left; (· (intro z hz; go_simp; first | done | (with_reducible rfl) | (constructor <;> with_reducible rfl))); (· (intro z hz; first | (go_at_call 18; refine (rori_any _ _ _ _ _ _ _).mono ?_; rintro e w' ⟨rfl, hB⟩; refine ⟨?_, hz.trans (hB.mono hz.size)⟩; with_reducible rfl))); (try simp only [Act.put, List.setIfInBounds_toArray, List.set_cons_zero, List.set_cons_succ])))); refine steps_end ?_; intro w' hB; obtain ⟨hc, hf⟩ := keep hB; have hz := hB.size; try simp at hz)
    all_goals (go_wp2; go_ret; exact ⟨rfl, by (repeat' (first | (with_reducible exact Below.refl _ _) | (with_reducible assumption) | (with_reducible refine Below.alloc ?_ ?_ _) | (with_reducible refine Below.drew ?_) | (with_reducible refine Below.setCell ?_ ?_ _) | (with_reducible refine below_call (by with_reducible assumption) ?_ ?_) | (first | (with_reducible exact Nat.le_refl _) | (with_reducible assumption) | omega | (simp; done) | (simp; omega))))⟩)
  · have hd : decide (oriV (ax, ay) (bx, b_y) (cx, cy) * oriV (ax, ay) (bx, b_y) (dx, dy) < 0) = false := by simpa using hP
    rw [hd, Bool.false_and]
    have hP' : (0 : Int) ≤ oriV (ax, ay) (bx, b_y) (cx, cy) * oriV (ax, ay) (bx, b_y) (dx, dy) := by omega
    go_enter Try.func21, Try.ntmps21
    go_wp2_with fail
    (refine wp_region_text (by kernel_rfl) (by kernel_rfl) ?_; (repeat (first | (refine step_val (v := ?_) (by rfl) ?_ ?_; rotate_left; (· (intro z hz; obtain ⟨hc, hf⟩ := keep hz; go_simp; first | done | (with_reducible rfl))); (try simp only [Act.put, List.setIfInBounds_toArray, List.set_cons_zero, List.set_cons_succ])) | (refine step_skip (by rfl) ?_; (try simp only [Act.put, List.setIfInBounds_toArray, List.set_cons_zero, List.set_cons_succ])) | (refine step_call (v := ?_) (f := ?_) (args := ?_) (by rfl) ?_ ?_ ?_; rotate_left; rotate_left; rotate_left; (· (intro z hz; go_simp; first | done | (with_reducible rfl) | (constructor <;> with_reducible rfl))); (· (intro z hz; first | (go_at_call 18; refine (rori_any _ _ _ _ _ _ _).mono ?_; rintro e w' ⟨rfl, hB⟩; refine ⟨?_, hz.trans (hB.mono hz.size)⟩; with_reducible rfl))); (try simp only [Act.put, List.setIfInBounds_toArray, List.set_cons_zero, List.set_cons_succ])))); refine steps_end ?_; intro w' hB; obtain ⟨hc, hf⟩ := keep hB; have hz := hB.size; try simp at hz)
    all_goals (go_wp2; go_ret; exact ⟨rfl, by (repeat' (first | (with_reducible exact Below.refl _ _) | (with_reducible assumption) | (with_reducible refine Below.alloc ?_ ?_ _) | (with_reducible refine Below.drew ?_) | (with_reducible refine Below.setCell ?_ ?_ _) | (with_reducible refine below_call (by with_reducible assumption) ?_ ?_) | (first | (with_reducible exact Nat.le_refl _) | (with_reducible assumption) | omega | (simp; done) | (simp; omega))))⟩)

set_option maxHeartbeats 1000000 in
theorem rmeet_any (ax ay bx b_y cx cy dx dy : Int) (w : World) :
    Calls Try.prog 20 #[.agg #[.int .i64 ax, .int .i64 ay], .agg #[.int .i64 bx, .int .i64 b_y], .agg #[.int .i64 cx, .int .i64 cy], .agg #[.int .i64 dx, .int .i64 dy]] w fun e w' => e = .returned (.bool (meetV (ax, ay) (bx, b_y) (cx, cy) (dx, dy))) ∧ Below w.heap.size w w' := by
  cases h1 : okB (ax, ay) <;> cases h2 : okB (bx, b_y) <;> cases h3 : okB (cx, cy) <;> cases h4 : okB (dx, dy)
  case true.true.true.true =>
    have hv : meetV (ax, ay) (bx, b_y) (cx, cy) (dx, dy) = (properV (ax, ay) (bx, b_y) (cx, cy) (dx, dy) || (onV (ax, ay) (bx, b_y) (cx, cy) || (onV (ax, ay) (bx, b_y) (dx, dy) || (onV (cx, cy) (dx, dy) (ax, ay) || onV (cx, cy) (dx, dy) (bx, b_y))))) := by unfold meetV ok4; rw [h1, h2, h3, h4]; rfl
    rw [hv]
    clear hv
    go_enter Try.func20, Try.ntmps20
    go_wp2_with (first | (go_at_call 15; refine (point_any _ _ _).mono ?_; rintro e w' ⟨rfl, hB⟩; obtain ⟨hc, hf⟩ := keep hB; have hz := hB.size; try simp at hz) | (go_at_call 21; refine (rproper_any _ _ _ _ _ _ _ _ _).mono ?_; rintro e w' ⟨rfl, hB⟩; obtain ⟨hc, hf⟩ := keep hB; have hz := hB.size; try simp at hz) | (go_at_call 19; refine (ron_any _ _ _ _ _ _ _).mono ?_; rintro e w' ⟨rfl, hB⟩; obtain ⟨hc, hf⟩ := keep hB; have hz := hB.size; try simp at hz))
    all_goals (go_ret; exact ⟨ret_bool (by simp [*]), by (repeat' (first | (with_reducible exact Below.refl _ _) | (with_reducible assumption) | (with_reducible refine Below.alloc ?_ ?_ _) | (with_reducible refine Below.drew ?_) | (with_reducible refine Below.setCell ?_ ?_ _) | (with_reducible refine below_call (by with_reducible assumption) ?_ ?_) | (first | (with_reducible exact Nat.le_refl _) | (with_reducible assumption) | omega | (simp; done) | (simp; omega))))⟩)
  all_goals
    have hv : meetV (ax, ay) (bx, b_y) (cx, cy) (dx, dy) = false := by unfold meetV ok4; rw [h1, h2, h3, h4]; rfl
    rw [hv]
    clear hv
    go_enter Try.func20, Try.ntmps20
    go_wp2_with (first | (go_at_call 15; refine (point_any _ _ _).mono ?_; rintro e w' ⟨rfl, hB⟩; obtain ⟨hc, hf⟩ := keep hB; have hz := hB.size; try simp at hz))
    go_ret
    exact ⟨rfl, by (repeat' (first | (with_reducible exact Below.refl _ _) | (with_reducible assumption) | (with_reducible refine Below.alloc ?_ ?_ _) | (with_reducible refine Below.drew ?_) | (with_reducible refine Below.setCell ?_ ?_ _) | (with_reducible refine below_call (by with_reducible assumption) ?_ ?_) | (first | (with_reducible exact Nat.le_refl _) | (with_reducible assumption) | omega | (simp; done) | (simp; omega))))⟩
end Go.Proofs.Ytocpdphchignpaa
