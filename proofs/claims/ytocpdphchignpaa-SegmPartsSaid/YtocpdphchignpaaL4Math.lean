/- Distances to segments, as their three words: compared, told apart. -/
import Derived.Test.YtocpdphchignpaaL4Awake
import Derived.Test.YtocpdphchignpaaLowMath
import Derived.Test.YtocpdphchignpaaRTimes
namespace Go.Proofs.Ytocpdphchignpaa
open Go.RowKit

theorem sqd_bd {a b : Int × Int} (ha : okB a = true) (hb : okB b = true) : sqd a b < 18446744073709551616 := by
  obtain ⟨a1, a2⟩ := a; obtain ⟨b1, b2⟩ := b
  rw [okB_iff] at ha hb
  have m1 := mul_far (a1 - b1) (a1 - b1) (by omega) (by omega)
  have m2 := mul_far (a2 - b2) (a2 - b2) (by omega) (by omega)
  unfold sqd; simp only; omega
theorem segN_big {a b p : Int × Int} (h : ok3 a b p = true) : Big (segN a b p) := by
  have h3 := h
  rw [ok3_iff] at h3
  obtain ⟨ha, hb, hp⟩ := h3
  have h0 := segN_ge a b p
  refine ⟨h0, ?_⟩
  have s1 := sqd_bd ha hp
  have s2 := sqd_bd hb hp
  unfold segN
  split
  · omega
  · split
    · omega
    · have hC := crossV_bd a b p
      rw [crossV_cr h] at hC
      have := sq_big (n := cr a b p) (by unfold Int64; omega)
      omega
theorem segD_word {a b p : Int × Int} (h : ok3 a b p = true) : segD a b p < 18446744073709551616 := by
  rw [ok3_iff] at h
  have := sqd_bd h.1 h.2.1
  unfold segD
  split
  · omega
  · split
    · omega
    · exact this
theorem seg_words (a b p : Int × Int) : Word (segH a b p) ∧ Word (segL a b p) ∧ Word (segE a b p) := by
  unfold segH segL segE
  cases h : ok3 a b p
  · refine ⟨?_, ?_, ?_⟩ <;> (simp; exact ⟨by decide, by decide⟩)
  · have hl := low_le (segN_ge a b p) (segD_pos a b p)
    have := segD_word h
    refine ⟨by simp; exact hiOf_word _, by simp; exact loOf_word _, by simp; unfold Word; omega⟩
theorem seg_num {a b p : Int × Int} (h : ok3 a b p = true) : num (segH a b p) (segL a b p) = segN a b p / lowG (segN a b p) (segD a b p) ∧ segE a b p = segD a b p / lowG (segN a b p) (segD a b p) ∧ 0 < segE a b p := by
  have hl := low_le (segN_ge a b p) (segD_pos a b p)
  have hb := segN_big h
  unfold segH segL segE
  rw [if_pos h, if_pos h, if_pos h]
  exact ⟨num_hl ⟨hl.1, by have := hb.2; omega⟩, rfl, hl.2.2.1⟩
theorem seg_cmp {a b p a' b' p' : Int × Int} (h : ok3 a b p = true) (h' : ok3 a' b' p' = true) :
    cmpD (segH a b p) (segL a b p) (segE a b p) (segH a' b' p') (segL a' b' p') (segE a' b' p') = cmpV (segN a b p * segD a' b' p') (segN a' b' p' * segD a b p) := by
  obtain ⟨n1, n2, n3⟩ := seg_num h
  obtain ⟨m1, m2, m3⟩ := seg_num h'
  unfold cmpD
  rw [if_neg (by omega), if_neg (by omega), n1, m1, n2, m2]
  exact low_cmp (segN_ge a b p) (segD_pos a b p) (segN_ge a' b' p') (segD_pos a' b' p')
/-- Alike just if they stand for one number. -/
theorem seg_alike {a b p a' b' p' : Int × Int} (h : ok3 a b p = true) (h' : ok3 a' b' p' = true) (e : segN a b p * segD a' b' p' = segN a' b' p' * segD a b p) :
    segH a b p = segH a' b' p' ∧ segL a b p = segL a' b' p' ∧ segE a b p = segE a' b' p' := by
  have hl := low_eq (segN_ge a b p) (segD_pos a b p) (segN_ge a' b' p') (segD_pos a' b' p') e
  unfold segH segL segE
  rw [h, h', hl.1, hl.2]
  exact ⟨rfl, rfl, rfl⟩
theorem seg_on {a b p : Int × Int} (h : ok3 a b p = true) : eq3 (segH a b p) (segL a b p) (segE a b p) 0 0 1 = onV a b p := by
  obtain ⟨n1, n2, n3⟩ := seg_num h
  obtain ⟨w1, w2, w3⟩ := seg_words a b p
  rw [Bool.eq_iff_iff, onV_iff]
  unfold eq3
  simp only [Bool.and_eq_true, decide_eq_true_eq, h, true_and]
  rw [← seg_zero, ← low_zero (segN_ge a b p) (segD_pos a b p), ← n1, ← n2]
  constructor
  · rintro ⟨h1, h2, h3⟩; rw [h1, h2]; exact ⟨rfl, h3⟩
  · rintro ⟨h1, h2⟩
    have : segH a b p = 0 ∧ segL a b p = 0 := num_inj w2 (by exact ⟨by decide, by decide⟩) (by rw [h1]; rfl)
    exact ⟨this.1, this.2, h2⟩
theorem ok3_sq {a p : Int × Int} : ok3 a a p = ok2 a p := by unfold ok3 ok2; cases okB a <;> rfl
theorem sq_words (a p : Int × Int) : hiOf (sqN a.1 a.2 p.1 p.2) = segH a a p ∧ loOf (sqN a.1 a.2 p.1 p.2) = segL a a p ∧ sqD a.1 a.2 p.1 p.2 = segE a a p := by
  unfold segH segL segE sqN sqD
  have e1 : (a.1, a.2) = a := rfl
  have e2 : (p.1, p.2) = p := rfl
  rw [e1, e2, ok3_sq, (seg_same a p).1, (seg_same a p).2, lowG_one, Int.ediv_one, Int.ediv_one]
  cases ok2 a p
  · exact ⟨rfl, rfl, rfl⟩
  · exact ⟨rfl, rfl, rfl⟩
theorem rsq_w (ax ay px py : Int) (w : World) :
    Calls Try.prog 17 #[.agg #[.int .i64 ax, .int .i64 ay], .agg #[.int .i64 px, .int .i64 py]] w fun e w' => e = .returned (.agg #[.int .u64 (segH (ax, ay) (ax, ay) (px, py)), .int .u64 (segL (ax, ay) (ax, ay) (px, py)), .int .u64 (segE (ax, ay) (ax, ay) (px, py))]) ∧ Below w.heap.size w w' := by
  have := rsq_any ax ay px py w
  have e := sq_words (ax, ay) (px, py)
  simp only at e
  rw [e.1, e.2.1, e.2.2] at this
  exact this
theorem seg_no {a b p : Int × Int} (h : ok3 a b p = false) : segH a b p = 0 ∧ segL a b p = 0 ∧ segE a b p = 0 ∧ onV a b p = false := by
  unfold segH segL segE onV
  rw [h]
  exact ⟨rfl, rfl, rfl, rfl⟩
theorem rcd_seg (a b p a' b' p' : Int × Int) (w : World) :
    Calls Try.prog 16 #[.agg #[.int .u64 (segH a b p), .int .u64 (segL a b p), .int .u64 (segE a b p)], .agg #[.int .u64 (segH a' b' p'), .int .u64 (segL a' b' p'), .int .u64 (segE a' b' p')]] w fun e w' => e = .returned (.int .i64 (cmpD (segH a b p) (segL a b p) (segE a b p) (segH a' b' p') (segL a' b' p') (segE a' b' p'))) ∧ Below w.heap.size w w' := by
  obtain ⟨w1, w2, w3⟩ := seg_words a b p
  obtain ⟨v1, v2, v3⟩ := seg_words a' b' p'
  exact rcompareDist_any _ _ _ _ _ _ w1 w2 w3 v1 v2 v3 w
theorem near_a {a b p : Int × Int} (h : ok3 a b p = true) : decide (cmpD (segH a b p) (segL a b p) (segE a b p) (segH a a p) (segL a a p) (segE a a p) ≤ 0) = true := by
  have h3 := h
  rw [ok3_iff] at h3
  have h' : ok3 a a p = true := (ok3_iff _ _ _).2 ⟨h3.1, h3.1, h3.2.2⟩
  rw [seg_cmp h h', (seg_same a p).1, (seg_same a p).2, Int.mul_one]
  have := seg_le a b p
  rw [decide_eq_true_eq]; unfold cmpV; omega
theorem near_b {a b p : Int × Int} (h : ok3 a b p = true) : decide (cmpD (segH a b p) (segL a b p) (segE a b p) (segH b b p) (segL b b p) (segE b b p) ≤ 0) = true := by
  have h3 := h
  rw [ok3_iff] at h3
  have h' : ok3 b b p = true := (ok3_iff _ _ _).2 ⟨h3.2.1, h3.2.1, h3.2.2⟩
  rw [seg_cmp h h', (seg_same b p).1, (seg_same b p).2, Int.mul_one]
  have := seg_le' a b p
  rw [decide_eq_true_eq]; unfold cmpV; omega
theorem meet_self {a b p : Int × Int} (h : ok3 a b p = true) : meetV a b p p = onV a b p := by
  have h3 := h
  rw [ok3_iff] at h3
  have h4 : ok4 a b p p = true := (ok4_iff _ _ _ _).2 ⟨h3.1, h3.2.1, h3.2.2, h3.2.2⟩
  rw [Bool.eq_iff_iff, meetV_iff, onV_iff]
  simp only [h, h4, true_and]
  constructor
  · rintro (h | h | h | ⟨_, h1, h2⟩ | ⟨_, h1, h2⟩)
    · have := h.1; unfold SOpp at this; omega
    · exact h
    · exact h
    · have e : p = a := Prod.ext (by unfold Opp at h1; omega) (by unfold Opp at h2; omega)
      rw [e]; exact on_end1 a b
    · have e : p = b := Prod.ext (by unfold Opp at h1; omega) (by unfold Opp at h2; omega)
      rw [e]; exact on_end2 a b
  · intro h; exact .inr (.inl h)
theorem on_ends {a b : Int × Int} (ha : okB a = true) (hb : okB b = true) : onV a b a = true ∧ onV a b b = true := by
  rw [onV_iff, onV_iff, ok3_iff, ok3_iff]
  exact ⟨⟨⟨ha, hb, ha⟩, on_end1 a b⟩, ⟨ha, hb, hb⟩, on_end2 a b⟩
end Go.Proofs.Ytocpdphchignpaa
