/- segm.Dist and pergolaref3.SegDist: the same. -/
import Derived.Test.YtocpdphchignpaaRefSegD
namespace Go.Proofs.Ytocpdphchignpaa
open Go.RowKit

theorem segV_no {a b p : Int × Int} (h : ok3 a b p = false) : segV a b p = .agg #[.int .u64 0, .int .u64 0, .int .u64 0] := by unfold segV; rw [h]; rfl
theorem segV_a {ax ay bx b_y px py : Int} (ha : okB (ax, ay) = true) (hb : okB (bx, b_y) = true) (hp : okB (px, py) = true) (h : (ax, ay) = (bx, b_y) ∨ dotV (ax, ay) (bx, b_y) (px, py) ≤ 0) :
    segV (ax, ay) (bx, b_y) (px, py) = .agg #[.int .u64 (hiOf (sqN ax ay px py)), .int .u64 (loOf (sqN ax ay px py)), .int .u64 (sqD ax ay px py)] := by
  rw [sq_lowD ha hp]
  have h3 : ok3 (ax, ay) (bx, b_y) (px, py) = true := (ok3_iff _ _ _).2 ⟨ha, hb, hp⟩
  rw [dotV_dt] at h
  unfold segV segN segD
  simp only [h3, h, if_true]
theorem segV_b {ax ay bx b_y px py : Int} (ha : okB (ax, ay) = true) (hb : okB (bx, b_y) = true) (hp : okB (px, py) = true) (h : ¬ ((ax, ay) = (bx, b_y) ∨ dotV (ax, ay) (bx, b_y) (px, py) ≤ 0)) (h' : dotV (bx, b_y) (ax, ay) (px, py) ≤ 0) :
    segV (ax, ay) (bx, b_y) (px, py) = .agg #[.int .u64 (hiOf (sqN bx b_y px py)), .int .u64 (loOf (sqN bx b_y px py)), .int .u64 (sqD bx b_y px py)] := by
  rw [sq_lowD hb hp]
  have h3 : ok3 (ax, ay) (bx, b_y) (px, py) = true := (ok3_iff _ _ _).2 ⟨ha, hb, hp⟩
  rw [dotV_dt] at h h'
  unfold segV segN segD
  simp only [h3, h, h', if_true, if_false]
theorem segV_mid {a b p : Int × Int} (h3 : ok3 a b p = true) (h : ¬ (a = b ∨ dotV a b p ≤ 0)) (h' : ¬ dotV b a p ≤ 0) :
    segV a b p = lowD (cr a b p * cr a b p) (sqd a b) := by
  rw [dotV_dt] at h h'
  unfold segV segN segD
  simp only [h3, h, h', if_true, if_false]
theorem eq2_of {ax ay bx b_y : Int} (h : ¬ (ax, ay) = (bx, b_y)) : eq2 ax ay bx b_y = false := by
  unfold eq2
  cases hx : decide (ax = bx)
  · rfl
  · cases hy : decide (ay = b_y)
    · rfl
    · exact absurd (Prod.ext (of_decide_eq_true hx) (of_decide_eq_true hy)) h

set_option maxRecDepth 100000 in
set_option maxHeartbeats 1000000 in
theorem sdist_any (ax ay bx b_y px py : Int) (w : World) :
    Calls Try.prog 13 #[.agg #[.int .i64 ax, .int .i64 ay], .agg #[.int .i64 bx, .int .i64 b_y], .agg #[.int .i64 px, .int .i64 py]] w fun e w' => e = .returned (segV (ax, ay) (bx, b_y) (px, py)) ∧ Below w.heap.size w w' := by
  cases h3 : ok3 (ax, ay) (bx, b_y) (px, py)
  · rw [segV_no h3]
    go_enter Try.func13, Try.ntmps13
    go_wp2_with fail
    refine (smay3 _ _ (by go_simp) ax ay bx b_y px py (by go_simp) (by go_simp) (by go_simp) (by go_simp) (by go_simp) (by go_simp)).mono ?_; rintro e w1 ⟨rfl, hB1⟩; obtain ⟨hc1, hf1⟩ := keep hB1; have hz1 := hB1.size; try simp at hz1
    go_wp2
    exact bodyPost_ret (v := .agg #[.int .u64 0, .int .u64 0, .int .u64 0]) (by simp [*, results, Try.results13, go_sem]) rfl ⟨rfl, by (repeat' (first | (with_reducible exact Below.refl _ _) | (with_reducible assumption) | (with_reducible refine Below.alloc ?_ ?_ _) | (with_reducible refine Below.drew ?_) | (with_reducible refine Below.setCell ?_ ?_ _) | (with_reducible refine below_call (by with_reducible assumption) ?_ ?_) | (first | (with_reducible exact Nat.le_refl _) | (with_reducible assumption) | omega | (simp; done) | (simp; omega))))⟩
  · have h3' := h3
    rw [ok3_iff] at h3'
    obtain ⟨ha, hb, hp⟩ := h3'
    by_cases he : (ax, ay) = (bx, b_y)
    · rw [segV_a ha hb hp (.inl he)]
      injection he with e1 e2
      subst e1; subst e2
      have HQ := fun w => square_any ax ay px py w
      generalize hiOf (sqN ax ay px py) = x1 at *
      generalize loOf (sqN ax ay px py) = x2 at *
      generalize sqD ax ay px py = x3 at *
      go_enter Try.func13, Try.ntmps13
      go_wp2_with fail
      refine (smay3 _ _ (by go_simp) ax ay ax ay px py (by go_simp) (by go_simp) (by go_simp) (by go_simp) (by go_simp) (by go_simp)).mono ?_; rintro e w1 ⟨rfl, hB1⟩; obtain ⟨hc1, hf1⟩ := keep hB1; have hz1 := hB1.size; try simp at hz1
      go_wp2_with fail
      refine (HQ _).mono ?_; rintro e w2 ⟨rfl, hB2⟩; obtain ⟨hc2, hf2⟩ := keep hB2; have hz2 := hB2.size; try simp at hz2
      go_wp2
      exact bodyPost_ret (v := .agg #[.int .u64 x1, .int .u64 x2, .int .u64 x3]) (by simp [*, results, Try.results13, go_sem]) rfl ⟨rfl, by (repeat' (first | (with_reducible exact Below.refl _ _) | (with_reducible assumption) | (with_reducible refine Below.alloc ?_ ?_ _) | (with_reducible refine Below.drew ?_) | (with_reducible refine Below.setCell ?_ ?_ _) | (with_reducible refine below_call (by with_reducible assumption) ?_ ?_) | (first | (with_reducible exact Nat.le_refl _) | (with_reducible assumption) | omega | (simp; done) | (simp; omega))))⟩
    · have hne := eq2_of he
      by_cases hd : dotV (ax, ay) (bx, b_y) (px, py) ≤ 0
      · rw [segV_a ha hb hp (.inr hd)]
        have HQ := fun w => square_any ax ay px py w
        generalize hiOf (sqN ax ay px py) = x1 at *
        generalize loOf (sqN ax ay px py) = x2 at *
        generalize sqD ax ay px py = x3 at *
        have hd1 : decide (dotV (ax, ay) (bx, b_y) (px, py) ≤ 0) = true := by simpa using hd
        go_enter Try.func13, Try.ntmps13
        go_wp2_with fail
        refine (smay3 _ _ (by go_simp) ax ay bx b_y px py (by go_simp) (by go_simp) (by go_simp) (by go_simp) (by go_simp) (by go_simp)).mono ?_; rintro e w1 ⟨rfl, hB1⟩; obtain ⟨hc1, hf1⟩ := keep hB1; have hz1 := hB1.size; try simp at hz1
        go_wp2_with fail
        refine (sdot_any _ _ _ _ _ _ ha hb hp _).mono ?_; rintro e w2 ⟨rfl, hB2⟩; obtain ⟨hc2, hf2⟩ := keep hB2; have hz2 := hB2.size; try simp at hz2
        go_wp2_with fail
        refine (HQ _).mono ?_; rintro e w3 ⟨rfl, hB3⟩; obtain ⟨hc3, hf3⟩ := keep hB3; have hz3 := hB3.size; try simp at hz3
        go_wp2
        exact bodyPost_ret (v := .agg #[.int .u64 x1, .int .u64 x2, .int .u64 x3]) (by simp [*, results, Try.results13, go_sem]) rfl ⟨rfl, by (repeat' (first | (with_reducible exact Below.refl _ _) | (with_reducible assumption) | (with_reducible refine Below.alloc ?_ ?_ _) | (with_reducible refine Below.drew ?_) | (with_reducible refine Below.setCell ?_ ?_ _) | (with_reducible refine below_call (by with_reducible assumption) ?_ ?_) | (first | (with_reducible exact Nat.le_refl _) | (with_reducible assumption) | omega | (simp; done) | (simp; omega))))⟩
      · have hn : ¬ ((ax, ay) = (bx, b_y) ∨ dotV (ax, ay) (bx, b_y) (px, py) ≤ 0) := by rintro (h | h); exact he h; exact hd h
        by_cases hd' : dotV (bx, b_y) (ax, ay) (px, py) ≤ 0
        · rw [segV_b ha hb hp hn hd']
          have HQ := fun w => square_any bx b_y px py w
          generalize hiOf (sqN bx b_y px py) = x1 at *
          generalize loOf (sqN bx b_y px py) = x2 at *
          generalize sqD bx b_y px py = x3 at *
          have hd1 : decide (dotV (ax, ay) (bx, b_y) (px, py) ≤ 0) = false := by simpa using hd
          have hd2 : decide (dotV (bx, b_y) (ax, ay) (px, py) ≤ 0) = true := by simpa using hd'
          clear hn
          go_enter Try.func13, Try.ntmps13
          go_wp2_with fail
          refine (smay3 _ _ (by go_simp) ax ay bx b_y px py (by go_simp) (by go_simp) (by go_simp) (by go_simp) (by go_simp) (by go_simp)).mono ?_; rintro e w1 ⟨rfl, hB1⟩; obtain ⟨hc1, hf1⟩ := keep hB1; have hz1 := hB1.size; try simp at hz1
          go_wp2_with fail
          refine (sdot_any _ _ _ _ _ _ ha hb hp _).mono ?_; rintro e w2 ⟨rfl, hB2⟩; obtain ⟨hc2, hf2⟩ := keep hB2; have hz2 := hB2.size; try simp at hz2
          go_wp2_with fail
          refine (sdot_any _ _ _ _ _ _ hb ha hp _).mono ?_; rintro e w4 ⟨rfl, hB4⟩; obtain ⟨hc4, hf4⟩ := keep hB4; have hz4 := hB4.size; try simp at hz4
          go_wp2_with fail
          refine (HQ _).mono ?_; rintro e w3 ⟨rfl, hB3⟩; obtain ⟨hc3, hf3⟩ := keep hB3; have hz3 := hB3.size; try simp at hz3
          go_wp2
          exact bodyPost_ret (v := .agg #[.int .u64 x1, .int .u64 x2, .int .u64 x3]) (by simp [*, results, Try.results13, go_sem]) rfl ⟨rfl, by (repeat' (first | (with_reducible exact Below.refl _ _) | (with_reducible assumption) | (with_reducible refine Below.alloc ?_ ?_ _) | (with_reducible refine Below.drew ?_) | (with_reducible refine Below.setCell ?_ ?_ _) | (with_reducible refine below_call (by with_reducible assumption) ?_ ?_) | (first | (with_reducible exact Nat.le_refl _) | (with_reducible assumption) | omega | (simp; done) | (simp; omega))))⟩
        · rw [segV_mid h3 hn hd']
          exact sdist_mid ax ay bx b_y px py ha hb hp hne (by omega) (by omega) w

set_option maxRecDepth 100000 in
set_option maxHeartbeats 1000000 in
theorem rsdist_any (ax ay bx b_y px py : Int) (w : World) :
    Calls Try.prog 24 #[.agg #[.int .i64 ax, .int .i64 ay], .agg #[.int .i64 bx, .int .i64 b_y], .agg #[.int .i64 px, .int .i64 py]] w fun e w' => e = .returned (segV (ax, ay) (bx, b_y) (px, py)) ∧ Below w.heap.size w w' := by
  cases ha : okB (ax, ay) <;> cases hb : okB (bx, b_y) <;> cases hp : okB (px, py)
  case true.true.true =>
    have h3 : ok3 (ax, ay) (bx, b_y) (px, py) = true := (ok3_iff _ _ _).2 ⟨ha, hb, hp⟩
    by_cases he : (ax, ay) = (bx, b_y)
    · rw [segV_a ha hb hp (.inl he)]
      injection he with e1 e2
      subst e1; subst e2
      have HQ := fun w => rsq_any ax ay px py w
      generalize hiOf (sqN ax ay px py) = x1 at *
      generalize loOf (sqN ax ay px py) = x2 at *
      generalize sqD ax ay px py = x3 at *
      go_enter Try.func24, Try.ntmps24
      go_wp2_with (first | (go_at_call 15; refine (point_any _ _ _).mono ?_; rintro e w' ⟨rfl, hB⟩; obtain ⟨hc, hf⟩ := keep hB; have hz := hB.size; try simp at hz) | (go_at_call 17; refine (HQ _).mono ?_; rintro e w' ⟨rfl, hB⟩; obtain ⟨hc, hf⟩ := keep hB; have hz := hB.size; try simp at hz))
      exact bodyPost_ret (v := .agg #[.int .u64 x1, .int .u64 x2, .int .u64 x3]) (by simp [*, results, Try.results24, go_sem]) rfl ⟨rfl, by (repeat' (first | (with_reducible exact Below.refl _ _) | (with_reducible assumption) | (with_reducible refine Below.alloc ?_ ?_ _) | (with_reducible refine Below.drew ?_) | (with_reducible refine Below.setCell ?_ ?_ _) | (with_reducible refine below_call (by with_reducible assumption) ?_ ?_) | (first | (with_reducible exact Nat.le_refl _) | (with_reducible assumption) | omega | (simp; done) | (simp; omega))))⟩
    · have hne := eq2_of he
      by_cases hd : dotV (ax, ay) (bx, b_y) (px, py) ≤ 0
      · rw [segV_a ha hb hp (.inr hd)]
        have HQ := fun w => rsq_any ax ay px py w
        generalize hiOf (sqN ax ay px py) = x1 at *
        generalize loOf (sqN ax ay px py) = x2 at *
        generalize sqD ax ay px py = x3 at *
        have hd1 : decide (dotV (ax, ay) (bx, b_y) (px, py) ≤ 0) = true := by simpa using hd
        go_enter Try.func24, Try.ntmps24
        go_wp2_with (first | (go_at_call 15; refine (point_any _ _ _).mono ?_; rintro e w' ⟨rfl, hB⟩; obtain ⟨hc, hf⟩ := keep hB; have hz := hB.size; try simp at hz) | (go_at_call 43; refine (rdot_any _ _ _ _ _ _ ha hb hp _).mono ?_; rintro e w' ⟨rfl, hB⟩; obtain ⟨hc, hf⟩ := keep hB; have hz := hB.size; try simp at hz) | (go_at_call 17; refine (HQ _).mono ?_; rintro e w' ⟨rfl, hB⟩; obtain ⟨hc, hf⟩ := keep hB; have hz := hB.size; try simp at hz))
        exact bodyPost_ret (v := .agg #[.int .u64 x1, .int .u64 x2, .int .u64 x3]) (by simp [*, results, Try.results24, go_sem]) rfl ⟨rfl, by (repeat' (first | (with_reducible exact Below.refl _ _) | (with_reducible assumption) | (with_reducible refine Below.alloc ?_ ?_ _) | (with_reducible refine Below.drew ?_) | (with_reducible refine Below.setCell ?_ ?_ _) | (with_reducible refine below_call (by with_reducible assumption) ?_ ?_) | (first | (with_reducible exact Nat.le_refl _) | (with_reducible assumption) | omega | (simp; done) | (simp; omega))))⟩
      · have hn : ¬ ((ax, ay) = (bx, b_y) ∨ dotV (ax, ay) (bx, b_y) (px, py) ≤ 0) := by rintro (h | h); exact he h; exact hd h
        by_cases hd' : dotV (bx, b_y) (ax, ay) (px, py) ≤ 0
        · rw [segV_b ha hb hp hn hd']
          have HQ := fun w => rsq_any bx b_y px py w
          generalize hiOf (sqN bx b_y px py) = x1 at *
          generalize loOf (sqN bx b_y px py) = x2 at *
          generalize sqD bx b_y px py = x3 at *
          have hd1 : decide (dotV (ax, ay) (bx, b_y) (px, py) ≤ 0) = false := by simpa using hd
          have hd2 : decide (dotV (bx, b_y) (ax, ay) (px, py) ≤ 0) = true := by simpa using hd'
          clear hn
          go_enter Try.func24, Try.ntmps24
          go_wp2_with (go_at_call 15; refine (point_any _ _ _).mono ?_; rintro e w' ⟨rfl, hB⟩; obtain ⟨hc, hf⟩ := keep hB; have hz := hB.size; try simp at hz)
          refine (rdot_any _ _ _ _ _ _ ha hb hp _).mono ?_; rintro e w2 ⟨rfl, hB2⟩; obtain ⟨hc2, hf2⟩ := keep hB2; have hz2 := hB2.size; try simp at hz2
          go_wp2_with fail
          refine (rdot_any _ _ _ _ _ _ hb ha hp _).mono ?_; rintro e w4 ⟨rfl, hB4⟩; obtain ⟨hc4, hf4⟩ := keep hB4; have hz4 := hB4.size; try simp at hz4
          go_wp2_with fail
          refine (HQ _).mono ?_; rintro e w3 ⟨rfl, hB3⟩; obtain ⟨hc3, hf3⟩ := keep hB3; have hz3 := hB3.size; try simp at hz3
          go_wp2
          exact bodyPost_ret (v := .agg #[.int .u64 x1, .int .u64 x2, .int .u64 x3]) (by simp [*, results, Try.results24, go_sem]) rfl ⟨rfl, by (repeat' (first | (with_reducible exact Below.refl _ _) | (with_reducible assumption) | (with_reducible refine Below.alloc ?_ ?_ _) | (with_reducible refine Below.drew ?_) | (with_reducible refine Below.setCell ?_ ?_ _) | (with_reducible refine below_call (by with_reducible assumption) ?_ ?_) | (first | (with_reducible exact Nat.le_refl _) | (with_reducible assumption) | omega | (simp; done) | (simp; omega))))⟩
        · rw [segV_mid h3 hn hd']
          exact rsdist_mid ax ay bx b_y px py ha hb hp hne (by omega) (by omega) w
  all_goals
    rw [segV_no (by unfold ok3; rw [ha, hb, hp]; rfl)]
    go_enter Try.func24, Try.ntmps24
    go_wp2_with (go_at_call 15; refine (point_any _ _ _).mono ?_; rintro e w' ⟨rfl, hB⟩; obtain ⟨hc, hf⟩ := keep hB; have hz := hB.size; try simp at hz)
    exact bodyPost_ret (v := .agg #[.int .u64 0, .int .u64 0, .int .u64 0]) (by simp [*, results, Try.results24, go_sem]) rfl ⟨rfl, by (repeat' (first | (with_reducible exact Below.refl _ _) | (with_reducible assumption) | (with_reducible refine Below.alloc ?_ ?_ _) | (with_reducible refine Below.drew ?_) | (with_reducible refine Below.setCell ?_ ?_ _) | (with_reducible refine below_call (by with_reducible assumption) ?_ ?_) | (first | (with_reducible exact Nat.le_refl _) | (with_reducible assumption) | omega | (simp; done) | (simp; omega))))⟩
end Go.Proofs.Ytocpdphchignpaa
