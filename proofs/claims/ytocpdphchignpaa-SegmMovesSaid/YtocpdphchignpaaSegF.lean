/- segm.MeetsBox, pergolaref3.corners and MeetsBox, pergolalaw4.awake. -/
import Derived.Test.YtocpdphchignpaaSegBool
import Derived.Test.YtocpdphchignpaaRefBox
namespace Go.Proofs.Ytocpdphchignpaa
open Go.RowKit

theorem checkBox_ok {lx ly hx hy : Int} (h : boxB (lx, ly, hx, hy) = true) (w : World) :
    Calls Try.prog 41 #[.agg #[.int .i64 lx, .int .i64 ly, .int .i64 hx, .int .i64 hy]] w fun e w' => e = .returned .nilIface ∧ Below w.heap.size w w' :=
  (checkBox_any lx ly hx hy w).mono fun e w' ⟨he, hB⟩ => ⟨by rw [he]; exact congrArg _ (errV_zero h), hB⟩
theorem checkBox_no {lx ly hx hy : Int} (h : boxB (lx, ly, hx, hy) = false) (w : World) :
    Calls Try.prog 41 #[.agg #[.int .i64 lx, .int .i64 ly, .int .i64 hx, .int .i64 hy]] w fun e w' => e = .returned (.iface 65 (.int .i64 (boxCode lx ly hx hy))) ∧ Below w.heap.size w w' :=
  (checkBox_any lx ly hx hy w).mono fun e w' ⟨he, hB⟩ => ⟨by rw [he]; exact congrArg _ (errV_ne h), hB⟩

set_option maxRecDepth 100000 in
set_option maxHeartbeats 1000000 in
theorem meetsBox_any (ax ay bx b_y lx ly hx hy : Int) (w : World) :
    Calls Try.prog 22 #[.agg #[.int .i64 ax, .int .i64 ay], .agg #[.int .i64 bx, .int .i64 b_y], .agg #[.int .i64 lx, .int .i64 ly, .int .i64 hx, .int .i64 hy]] w fun e w' => e = .returned (.bool (meetsBoxV (ax, ay) (bx, b_y) lx ly hx hy)) ∧ Below w.heap.size w w' := by
  cases h2 : ok2 (ax, ay) (bx, b_y)
  · have hv : meetsBoxV (ax, ay) (bx, b_y) lx ly hx hy = false := by unfold meetsBoxV; rw [h2]; rfl
    rw [hv]; clear hv
    go_enter Try.func22, Try.ntmps22
    go_wp2_with fail
    refine (smay2 _ _ (by go_simp) ax ay bx b_y (by go_simp) (by go_simp) (by go_simp) (by go_simp)).mono ?_; rintro e w1 ⟨rfl, hB1⟩; obtain ⟨hc1, hf1⟩ := keep hB1; have hz1 := hB1.size; try simp at hz1
    go_wp2
    go_ret
    exact ⟨rfl, by (repeat' (first | (with_reducible exact Below.refl _ _) | (with_reducible assumption) | (with_reducible refine Below.alloc ?_ ?_ _) | (with_reducible refine Below.drew ?_) | (with_reducible refine Below.setCell ?_ ?_ _) | (with_reducible refine below_call (by with_reducible assumption) ?_ ?_) | (first | (with_reducible exact Nat.le_refl _) | (with_reducible assumption) | omega | (simp; done) | (simp; omega))))⟩
  · cases hb : boxB (lx, ly, hx, hy)
    · have hv : meetsBoxV (ax, ay) (bx, b_y) lx ly hx hy = false := by unfold meetsBoxV; rw [h2, hb]; rfl
      rw [hv]; clear hv
      go_enter Try.func22, Try.ntmps22
      go_wp2_with fail
      refine (smay2 _ _ (by go_simp) ax ay bx b_y (by go_simp) (by go_simp) (by go_simp) (by go_simp)).mono ?_; rintro e w1 ⟨rfl, hB1⟩; obtain ⟨hc1, hf1⟩ := keep hB1; have hz1 := hB1.size; try simp at hz1
      go_wp2_with fail
      refine (checkBox_no hb _).mono ?_; rintro e w2 ⟨rfl, hB2⟩; obtain ⟨hc2, hf2⟩ := keep hB2; have hz2 := hB2.size; try simp at hz2
      go_wp2
      go_ret
      exact ⟨rfl, by (repeat' (first | (with_reducible exact Below.refl _ _) | (with_reducible assumption) | (with_reducible refine Below.alloc ?_ ?_ _) | (with_reducible refine Below.drew ?_) | (with_reducible refine Below.setCell ?_ ?_ _) | (with_reducible refine below_call (by with_reducible assumption) ?_ ?_) | (first | (with_reducible exact Nat.le_refl _) | (with_reducible assumption) | omega | (simp; done) | (simp; omega))))⟩
    · have hv : meetsBoxV (ax, ay) (bx, b_y) lx ly hx hy = (hasB lx ly hx hy ax ay || (hasB lx ly hx hy bx b_y || (meetV (ax, ay) (bx, b_y) (lx, ly) (hx, hy) || meetV (ax, ay) (bx, b_y) (lx, hy) (hx, ly)))) := by unfold meetsBoxV; rw [h2, hb]; rfl
      rw [hv]; clear hv
      cases hA : hasB lx ly hx hy ax ay
      · cases hC : hasB lx ly hx hy bx b_y
        · rw [Bool.false_or, Bool.false_or]
          go_enter Try.func22, Try.ntmps22
          go_wp2_with fail
          refine (smay2 _ _ (by go_simp) ax ay bx b_y (by go_simp) (by go_simp) (by go_simp) (by go_simp)).mono ?_; rintro e w1 ⟨rfl, hB1⟩; obtain ⟨hc1, hf1⟩ := keep hB1; have hz1 := hB1.size; try simp at hz1
          go_wp2_with fail
          refine (checkBox_ok hb _).mono ?_; rintro e w2 ⟨rfl, hB2⟩; obtain ⟨hc2, hf2⟩ := keep hB2; have hz2 := hB2.size; try simp at hz2
          go_wp2_with fail
          refine (has_any _ _ _ _ _ _ _).mono ?_; rintro e w3 ⟨rfl, hB3⟩; obtain ⟨hc3, hf3⟩ := keep hB3; have hz3 := hB3.size; try simp at hz3
          go_wp2_with fail
          refine (has_any _ _ _ _ _ _ _).mono ?_; rintro e w4 ⟨rfl, hB4⟩; obtain ⟨hc4, hf4⟩ := keep hB4; have hz4 := hB4.size; try simp at hz4
          go_wp2_with fail
          go_region
          all_goals
            go_wp2_with (go_at_call 10; refine (meet_any _ _ _ _ _ _ _ _ _).mono ?_; rintro e w' ⟨rfl, hB⟩; obtain ⟨hc, hf⟩ := keep hB; have hz := hB.size; try simp at hz)
            all_goals (go_ret; exact ⟨ret_bool (by simp [*]), by (repeat' (first | (with_reducible exact Below.refl _ _) | (with_reducible assumption) | (with_reducible refine Below.alloc ?_ ?_ _) | (with_reducible refine Below.drew ?_) | (with_reducible refine Below.setCell ?_ ?_ _) | (with_reducible refine below_call (by with_reducible assumption) ?_ ?_) | (first | (with_reducible exact Nat.le_refl _) | (with_reducible assumption) | omega | (simp; done) | (simp; omega))))⟩)
        · go_enter Try.func22, Try.ntmps22
          go_wp2_with fail
          refine (smay2 _ _ (by go_simp) ax ay bx b_y (by go_simp) (by go_simp) (by go_simp) (by go_simp)).mono ?_; rintro e w1 ⟨rfl, hB1⟩; obtain ⟨hc1, hf1⟩ := keep hB1; have hz1 := hB1.size; try simp at hz1
          go_wp2_with fail
          refine (checkBox_ok hb _).mono ?_; rintro e w2 ⟨rfl, hB2⟩; obtain ⟨hc2, hf2⟩ := keep hB2; have hz2 := hB2.size; try simp at hz2
          go_wp2_with fail
          refine (has_any _ _ _ _ _ _ _).mono ?_; rintro e w3 ⟨rfl, hB3⟩; obtain ⟨hc3, hf3⟩ := keep hB3; have hz3 := hB3.size; try simp at hz3
          go_wp2_with fail
          refine (has_any _ _ _ _ _ _ _).mono ?_; rintro e w4 ⟨rfl, hB4⟩; obtain ⟨hc4, hf4⟩ := keep hB4; have hz4 := hB4.size; try simp at hz4
          go_wp2
          go_ret
          exact ⟨rfl, by (repeat' (first | (with_reducible exact Below.refl _ _) | (with_reducible assumption) | (with_reducible refine Below.alloc ?_ ?_ _) | (with_reducible refine Below.drew ?_) | (with_reducible refine Below.setCell ?_ ?_ _) | (with_reducible refine below_call (by with_reducible assumption) ?_ ?_) | (first | (with_reducible exact Nat.le_refl _) | (with_reducible assumption) | omega | (simp; done) | (simp; omega))))⟩
      · go_enter Try.func22, Try.ntmps22
        go_wp2_with fail
        refine (smay2 _ _ (by go_simp) ax ay bx b_y (by go_simp) (by go_simp) (by go_simp) (by go_simp)).mono ?_; rintro e w1 ⟨rfl, hB1⟩; obtain ⟨hc1, hf1⟩ := keep hB1; have hz1 := hB1.size; try simp at hz1
        go_wp2_with fail
        refine (checkBox_ok hb _).mono ?_; rintro e w2 ⟨rfl, hB2⟩; obtain ⟨hc2, hf2⟩ := keep hB2; have hz2 := hB2.size; try simp at hz2
        go_wp2_with fail
        refine (has_any _ _ _ _ _ _ _).mono ?_; rintro e w3 ⟨rfl, hB3⟩; obtain ⟨hc3, hf3⟩ := keep hB3; have hz3 := hB3.size; try simp at hz3
        go_wp2
        go_ret
        exact ⟨rfl, by (repeat' (first | (with_reducible exact Below.refl _ _) | (with_reducible assumption) | (with_reducible refine Below.alloc ?_ ?_ _) | (with_reducible refine Below.drew ?_) | (with_reducible refine Below.setCell ?_ ?_ _) | (with_reducible refine below_call (by with_reducible assumption) ?_ ?_) | (first | (with_reducible exact Nat.le_refl _) | (with_reducible assumption) | omega | (simp; done) | (simp; omega))))⟩

/-- What corners leaves: the four corners in one new block. -/
structure CornersPost (lx ly hx hy : Int) (w : World) (e : Ending) (w' : World) : Prop where
  ret : e = .returned (.slice (some ⟨w.heap.size + 1, 0, none⟩) 4 4)
  below : Below w.heap.size w w'
  size : w.heap.size + 1 < w'.heap.size
  x : ∀ i, i < 4 → w'.cell? ⟨w.heap.size + 1, i * 2, none⟩ = some (.int .i64 (cornX lx hx i))
  y : ∀ i, i < 4 → w'.cell? ⟨w.heap.size + 1, i * 2 + 1, none⟩ = some (.int .i64 (cornY ly hy i))
set_option maxHeartbeats 400000 in
theorem corners_any (lx ly hx hy : Int) (w : World) : Calls Try.prog 42 #[.agg #[.int .i64 lx, .int .i64 ly, .int .i64 hx, .int .i64 hy]] w (CornersPost lx ly hx hy w) := by
  go_enter Try.func42, Try.ntmps42
  go_wp2
  go_ret
  refine ⟨rfl, by (repeat' (first | (with_reducible exact Below.refl _ _) | (with_reducible assumption) | (with_reducible refine Below.alloc ?_ ?_ _) | (with_reducible refine Below.drew ?_) | (with_reducible refine Below.setCell ?_ ?_ _) | (with_reducible refine below_call (by with_reducible assumption) ?_ ?_) | (first | (with_reducible exact Nat.le_refl _) | (with_reducible assumption) | omega | (simp; done) | (simp; omega)))), by simp, ?_, ?_⟩
  · intro i hi
    match i, hi with
    | 0, _ => go_simp; rfl
    | 1, _ => go_simp; rfl
    | 2, _ => go_simp; rfl
    | 3, _ => go_simp; rfl
  · intro i hi
    match i, hi with
    | 0, _ => go_simp; rfl
    | 1, _ => go_simp; rfl
    | 2, _ => go_simp; rfl
    | 3, _ => go_simp; rfl
end Go.Proofs.Ytocpdphchignpaa
