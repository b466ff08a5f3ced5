/- Plain integer geometry: a segment meets a box just if it meets one of its sides, or one of its diagonals, or has an end in it. No function of the program is named here. -/
import Derived.Test.YtocpdphchignpaaSegMath
namespace Go.Proofs.Ytocpdphchignpaa

def InP (lx ly hx hy : Int) (p : Int × Int) : Prop := lx ≤ p.1 ∧ p.1 ≤ hx ∧ ly ≤ p.2 ∧ p.2 ≤ hy
/-- The spans have something in common, and the corners are not all on one side. -/
def SatP (a b : Int × Int) (lx ly hx hy : Int) : Prop :=
  Lap a.1 b.1 lx hx ∧ Lap a.2 b.2 ly hy ∧ (cr a b (lx, ly) ≤ 0 ∨ cr a b (hx, ly) ≤ 0 ∨ cr a b (hx, hy) ≤ 0 ∨ cr a b (lx, hy) ≤ 0) ∧
    (0 ≤ cr a b (lx, ly) ∨ 0 ≤ cr a b (hx, ly) ∨ 0 ≤ cr a b (hx, hy) ∨ 0 ≤ cr a b (lx, hy))
def SidesP (a b : Int × Int) (lx ly hx hy : Int) : Prop := MP a b (lx, ly) (hx, ly) ∨ MP a b (hx, ly) (hx, hy) ∨ MP a b (hx, hy) (lx, hy) ∨ MP a b (lx, hy) (lx, ly)
def DiagsP (a b : Int × Int) (lx ly hx hy : Int) : Prop := MP a b (lx, ly) (hx, hy) ∨ MP a b (lx, hy) (hx, ly)

theorem sat_flip {a b : Int × Int} {lx ly hx hy : Int} (h : SatP a b lx ly hx hy) : SatP b a lx ly hx hy := by
  obtain ⟨h1, h2, h3, h4⟩ := h
  refine ⟨by unfold Lap at *; omega, by unfold Lap at *; omega, ?_, ?_⟩
  all_goals (simp only [cr_swap a b]; omega)
theorem sat_flip_iff (a b : Int × Int) (lx ly hx hy : Int) : SatP b a lx ly hx hy ↔ SatP a b lx ly hx hy := ⟨sat_flip, sat_flip⟩
/-- A box of one point. -/
theorem sat_point (a b p : Int × Int) : SatP a b p.1 p.2 p.1 p.2 ↔ OnP a b p := by
  unfold SatP OnP Lap Opp
  constructor
  · rintro ⟨h1, h2, h3, h4⟩
    have e : ((p.1, p.2) : Int × Int) = p := rfl
    simp only [e] at h3 h4
    refine ⟨by omega, by omega, by omega⟩
  · rintro ⟨h1, h2, h3⟩
    have e : ((p.1, p.2) : Int × Int) = p := rfl
    simp only [e]
    refine ⟨by omega, by omega, by omega, by omega⟩
/-- What crosses from corner to corner meets the box. -/
theorem sat_of_corners {a b : Int × Int} {lx ly hx hy px py qx qy : Int} (hp1 : px = lx ∨ px = hx) (hp2 : py = ly ∨ py = hy) (hq1 : qx = lx ∨ qx = hx) (hq2 : qy = ly ∨ qy = hy) (h : MP a b (px, py) (qx, qy)) : SatP a b lx ly hx hy := by
  obtain ⟨h1, _, h3, h4⟩ := h
  simp only at h3 h4
  rcases hp1 with rfl | rfl <;> rcases hp2 with rfl | rfl <;> rcases hq1 with rfl | rfl <;> rcases hq2 with rfl | rfl
  all_goals (refine ⟨by unfold Lap at *; omega, by unfold Lap at *; omega, ?_, ?_⟩ <;> (unfold Opp at h1; omega))
theorem sat_of_sides {a b : Int × Int} {lx ly hx hy : Int} (h : SidesP a b lx ly hx hy) : SatP a b lx ly hx hy := by
  rcases h with h | h | h | h
  all_goals exact sat_of_corners (by simp) (by simp) (by simp) (by simp) h
theorem sat_of_diags {a b : Int × Int} {lx ly hx hy : Int} (h : DiagsP a b lx ly hx hy) : SatP a b lx ly hx hy := by
  rcases h with h | h
  all_goals exact sat_of_corners (by simp) (by simp) (by simp) (by simp) h
/-- An end in it. -/
theorem sat_of_in {a b : Int × Int} {lx ly hx hy : Int} (h : InP lx ly hx hy a) : SatP a b lx ly hx hy := by
  obtain ⟨a1, a2⟩ := a
  obtain ⟨b1, b2⟩ := b
  obtain ⟨k1, k2, k3, k4⟩ := h
  simp only at k1 k2 k3 k4
  refine ⟨by unfold Lap; simp only; omega, by unfold Lap; simp only; omega, ?_, ?_⟩
  · simp only [cr]
    rcases Int.le_total 0 (b1 - a1) with hb | hb <;> rcases Int.le_total 0 (b2 - a2) with hd | hd
    · have := mul_le0' hb (show ly - a2 ≤ 0 by omega); have := Int.mul_nonneg hd (show 0 ≤ hx - a1 by omega); omega
    · have := mul_le0' hb (show ly - a2 ≤ 0 by omega); have := mul_ge0 hd (show lx - a1 ≤ 0 by omega); omega
    · have := mul_le0 hb (show 0 ≤ hy - a2 by omega); have := Int.mul_nonneg hd (show 0 ≤ hx - a1 by omega); omega
    · have := mul_le0 hb (show 0 ≤ hy - a2 by omega); have := mul_ge0 hd (show lx - a1 ≤ 0 by omega); omega
  · simp only [cr]
    rcases Int.le_total 0 (b1 - a1) with hb | hb <;> rcases Int.le_total 0 (b2 - a2) with hd | hd
    · have := Int.mul_nonneg hb (show 0 ≤ hy - a2 by omega); have := mul_le0' hd (show lx - a1 ≤ 0 by omega); omega
    · have := Int.mul_nonneg hb (show 0 ≤ hy - a2 by omega); have := mul_le0 hd (show 0 ≤ hx - a1 by omega); omega
    · have := mul_ge0 hb (show ly - a2 ≤ 0 by omega); have := mul_le0' hd (show lx - a1 ≤ 0 by omega); omega
    · have := mul_ge0 hb (show ly - a2 ≤ 0 by omega); have := mul_le0 hd (show 0 ≤ hx - a1 by omega); omega
theorem sat_of_in' {a b : Int × Int} {lx ly hx hy : Int} (h : InP lx ly hx hy b) : SatP a b lx ly hx hy := sat_flip (sat_of_in h)

theorem push {P Q R u v : Int} (hP : 0 < P) (hQ : 0 < Q) (hR : 0 ≤ R) (h : P * u = R + Q * v) (hu : u < 0) : v < 0 := by
  rcases Int.lt_or_le v 0 with hv | hv
  · exact hv
  · have h1 := Int.mul_nonneg (Int.le_of_lt hQ) hv
    have h2 := Int.mul_pos hP (show 0 < -u by omega)
    rw [Int.mul_neg] at h2; omega

theorem push_key {F G C D u v x y : Int} (d0 : F - G = D - C) (hf : Opp F G) (e : F * y - G * x = D * u - C * v) (hx : 0 ≤ x) (hy : 0 ≤ y) :
    (0 < C → C < D → u < 0 → v < 0) ∧ (D < C → C < 0 → u < 0 → v < 0) ∧ (0 < D → D < C → v < 0 → u < 0) ∧ (C < D → D < 0 → v < 0 → u < 0) := by
  have up : C < D → 0 ≤ F * y - G * x := by
    intro h
    have hs : 0 ≤ F ∧ G ≤ 0 := by unfold Opp at hf; omega
    have r1 := Int.mul_nonneg hs.1 hy
    have r2 := mul_le0 hs.2 hx
    omega
  have dn : D < C → F * y - G * x ≤ 0 := by
    intro h
    have hs : F ≤ 0 ∧ 0 ≤ G := by unfold Opp at hf; omega
    have r1 := mul_le0 hs.1 hy
    have r2 := Int.mul_nonneg hs.2 hx
    omega
  clear hf hx hy d0
  refine ⟨fun h1 h2 hu => ?_, fun h1 h2 hu => ?_, fun h1 h2 hv => ?_, fun h1 h2 hv => ?_⟩
  · exact push (P := D) (Q := C) (R := F * y - G * x) (by omega) h1 (up h2) (by omega) hu
  · exact push (P := -D) (Q := -C) (R := -(F * y - G * x)) (by omega) (by omega) (by have := dn h1; omega) (by rw [Int.neg_mul, Int.neg_mul]; omega) hu
  · exact push (P := C) (Q := D) (R := -(F * y - G * x)) (by omega) h1 (by have := dn h2; omega) (by omega) hv
  · exact push (P := -C) (Q := -D) (R := F * y - G * x) (by omega) (by omega) (up h1) (by rw [Int.neg_mul, Int.neg_mul]; omega) hv

theorem out_one {l h a b : Int} (h1 : Lap a b l h) (hl : l ≤ h) (k1 : a - l < 0 → b - l < 0) (k2 : h - a < 0 → h - b < 0) : l ≤ a ∧ a ≤ h := by
  constructor
  · rcases Int.lt_or_le a l with h | h
    · have := k1 (by omega)
      unfold Lap at h1; omega
    · exact h
  · rcases Int.lt_or_le h a with h | h
    · have := k2 (by omega)
      unfold Lap at h1; omega
    · exact h
theorem lap_flip {a b c d : Int} (h : Lap a b c d) : Lap b a c d := by unfold Lap at *; omega

/-- Both ends outside of the box, and between its corners p and q: they are on both sides of p q. -/
theorem diag_sides {a b p q : Int × Int} {lx ly hx hy : Int} (hp : InP lx ly hx hy p) (hq : InP lx ly hx hy q) (ha : ¬ InP lx ly hx hy a) (hb : ¬ InP lx ly hx hy b)
    (h1 : Lap a.1 b.1 lx hx) (h2 : Lap a.2 b.2 ly hy) (hf : Opp (cr a b p) (cr a b q)) : Opp (cr p q a) (cr p q b) := by
  have d0 := cr_diff a b p q
  have w1 := cr_w1 a b p q
  have w2 := cr_w2 a b p q
  obtain ⟨p1, p2⟩ := p; obtain ⟨q1, q2⟩ := q; obtain ⟨a1, a2⟩ := a; obtain ⟨b1, b2⟩ := b
  generalize cr (a1, a2) (b1, b2) (p1, p2) = F at *
  generalize cr (a1, a2) (b1, b2) (q1, q2) = G at *
  generalize cr (p1, p2) (q1, q2) (a1, a2) = C at *
  generalize cr (p1, p2) (q1, q2) (b1, b2) = D at *
  unfold InP at *
  simp only at *
  -- how far from each line, with its sign
  have f1 : F * (q1 - lx) - G * (p1 - lx) = D * (a1 - lx) - C * (b1 - lx) := by
    have e : (F - G) * lx = (D - C) * lx := by rw [d0]
    simp only [Int.mul_sub, Int.sub_mul] at *; omega
  have f2 : F * (hx - q1) - G * (hx - p1) = D * (hx - a1) - C * (hx - b1) := by
    have e : (F - G) * hx = (D - C) * hx := by rw [d0]
    simp only [Int.mul_sub, Int.sub_mul] at *; omega
  have f3 : F * (q2 - ly) - G * (p2 - ly) = D * (a2 - ly) - C * (b2 - ly) := by
    have e : (F - G) * ly = (D - C) * ly := by rw [d0]
    simp only [Int.mul_sub, Int.sub_mul] at *; omega
  have f4 : F * (hy - q2) - G * (hy - p2) = D * (hy - a2) - C * (hy - b2) := by
    have e : (F - G) * hy = (D - C) * hy := by rw [d0]
    simp only [Int.mul_sub, Int.sub_mul] at *; omega
  by_cases hn : Opp C D
  · exact hn
  · exfalso
    have k1 := push_key d0 hf f1 (by clear f1 f2 f3 f4 w1 w2; omega) (by clear f1 f2 f3 f4 w1 w2; omega)
    have k2 := push_key d0 hf f2 (by clear f1 f2 f3 f4 w1 w2; omega) (by clear f1 f2 f3 f4 w1 w2; omega)
    have k3 := push_key d0 hf f3 (by clear f1 f2 f3 f4 w1 w2; omega) (by clear f1 f2 f3 f4 w1 w2; omega)
    have k4 := push_key d0 hf f4 (by clear f1 f2 f3 f4 w1 w2; omega) (by clear f1 f2 f3 f4 w1 w2; omega)
    clear f1 f2 f3 f4
    unfold Opp at hf hn
    by_cases hCD : C = D
    · -- then both ends are one point
      subst hCD
      clear k1 k2 k3 k4
      have hF : F = 0 := by clear w1 w2 h1 h2 ha hb hp hq; omega
      have hG : G = 0 := by clear w1 w2 h1 h2 ha hb hp hq; omega
      have hC : C ≠ 0 := by clear w1 w2 h1 h2 ha hb hp hq; omega
      clear hn hf d0
      subst hF; subst hG
      simp only [Int.zero_mul] at w1 w2
      have e1 : C * (a1 - b1) = 0 := by rw [Int.mul_sub]; clear h1 h2 ha hb hp hq; omega
      have e2 : C * (a2 - b2) = 0 := by rw [Int.mul_sub]; clear h1 h2 ha hb hp hq; omega
      clear w1 w2
      have g1 : a1 = b1 := by rcases Int.mul_eq_zero.1 e1 with h | h; exact absurd h hC; clear h1 h2 ha hb hp hq; omega
      have g2 : a2 = b2 := by rcases Int.mul_eq_zero.1 e2 with h | h; exact absurd h hC; clear h1 h2 ha hb hp hq; omega
      clear e1 e2 hC
      subst g1; subst g2
      clear hb hq
      unfold Lap at h1 h2
      omega
    · clear w1 w2 hf
      have far : (0 < C ∧ C < D) ∨ (D < C ∧ C < 0) ∨ (0 < D ∧ D < C) ∨ (C < D ∧ D < 0) := by clear k1 k2 k3 k4 h1 h2 ha hb hp hq; omega
      clear hn d0
      have lx0 : lx ≤ hx := by omega
      have ly0 : ly ≤ hy := by omega
      clear hp hq
      rcases far with ⟨g1, g2⟩ | ⟨g1, g2⟩ | ⟨g1, g2⟩ | ⟨g1, g2⟩
      · have r1 := out_one h1 lx0 (k1.1 g1 g2) (k2.1 g1 g2)
        have r2 := out_one h2 ly0 (k3.1 g1 g2) (k4.1 g1 g2)
        exact ha ⟨r1.1, r1.2, r2.1, r2.2⟩
      · have r1 := out_one h1 lx0 (k1.2.1 g1 g2) (k2.2.1 g1 g2)
        have r2 := out_one h2 ly0 (k3.2.1 g1 g2) (k4.2.1 g1 g2)
        exact ha ⟨r1.1, r1.2, r2.1, r2.2⟩
      · have r1 := out_one (lap_flip h1) lx0 (k1.2.2.1 g1 g2) (k2.2.2.1 g1 g2)
        have r2 := out_one (lap_flip h2) ly0 (k3.2.2.1 g1 g2) (k4.2.2.1 g1 g2)
        exact hb ⟨r1.1, r1.2, r2.1, r2.2⟩
      · have r1 := out_one (lap_flip h1) lx0 (k1.2.2.2 g1 g2) (k2.2.2.2 g1 g2)
        have r2 := out_one (lap_flip h2) ly0 (k3.2.2.2 g1 g2) (k4.2.2.2 g1 g2)
        exact hb ⟨r1.1, r1.2, r2.1, r2.2⟩

theorem cr_four (a b : Int × Int) (lx ly hx hy : Int) : cr a b (lx, ly) + cr a b (hx, hy) = cr a b (hx, ly) + cr a b (lx, hy) := by unfold cr; grind
theorem diags_of_sat {a b : Int × Int} {lx ly hx hy : Int} (hx0 : lx ≤ hx) (hy0 : ly ≤ hy) (h : SatP a b lx ly hx hy) (ha : ¬ InP lx ly hx hy a) (hb : ¬ InP lx ly hx hy b) : DiagsP a b lx ly hx hy := by
  obtain ⟨h1, h2, h3, h4⟩ := h
  have h5 := cr_four a b lx ly hx hy
  have h6 : Opp (cr a b (lx, ly)) (cr a b (hx, hy)) ∨ Opp (cr a b (lx, hy)) (cr a b (hx, ly)) := by unfold Opp; omega
  rcases h6 with h6 | h6
  · refine .inl ⟨h6, ?_, h1, h2⟩
    exact diag_sides (p := (lx, ly)) (q := (hx, hy)) (lx := lx) (ly := ly) (hx := hx) (hy := hy) (by unfold InP; simp only; omega) (by unfold InP; simp only; omega) ha hb h1 h2 h6
  · refine .inr ⟨h6, ?_, h1, by unfold Lap at *; simp only at *; omega⟩
    exact diag_sides (p := (lx, hy)) (q := (hx, ly)) (lx := lx) (ly := ly) (hx := hx) (hy := hy) (by unfold InP; simp only; omega) (by unfold InP; simp only; omega) ha hb h1 h2 h6

/-- The first end is to the left of the box. -/
theorem sides_left {a b : Int × Int} {lx ly hx hy : Int} (hx0 : lx ≤ hx) (hy0 : ly ≤ hy) (h : SatP a b lx ly hx hy) (hl : a.1 < lx) : SidesP a b lx ly hx hy := by
  obtain ⟨a1, a2⟩ := a; obtain ⟨b1, b2⟩ := b
  obtain ⟨h1, h2, h3, h4⟩ := h
  unfold SidesP MP
  simp only [cr] at *
  have hb1 : lx ≤ b1 := by unfold Lap at h1; omega
  -- how the corners' sides differ
  have e1 : (b1 - a1) * (hy - a2) = (b1 - a1) * (ly - a2) + (b1 - a1) * (hy - ly) := by rw [← Int.mul_add]; congr 1; omega
  have e2 : (b2 - a2) * (hx - a1) = (b2 - a2) * (lx - a1) + (b2 - a2) * (hx - lx) := by rw [← Int.mul_add]; congr 1; omega
  have p1 := Int.mul_nonneg (show 0 ≤ b1 - a1 by omega) (show 0 ≤ hy - ly by omega)
  by_cases hleft : Opp ((b1 - a1) * (hy - a2) - (b2 - a2) * (lx - a1)) ((b1 - a1) * (ly - a2) - (b2 - a2) * (lx - a1))
  · refine .inr (.inr (.inr ⟨hleft, ?_, by unfold Lap; omega, by unfold Lap at *; omega⟩))
    have q1 := mul_ge0 (show ly - hy ≤ 0 by omega) (show a1 - lx ≤ 0 by omega)
    have q2 := mul_le0 (show ly - hy ≤ 0 by omega) (show 0 ≤ b1 - lx by omega)
    have z : lx - lx = 0 := by omega
    rw [z, Int.zero_mul, Int.zero_mul]
    unfold Opp; omega
  · unfold Opp at hleft
    have hd : (0 < b2 - a2 ∧ lx < hx ∧ 0 < (b1 - a1) * (ly - a2) - (b2 - a2) * (lx - a1) ∧ (b1 - a1) * (ly - a2) - (b2 - a2) * (hx - a1) ≤ 0) ∨ (b2 - a2 < 0 ∧ lx < hx ∧ (b1 - a1) * (hy - a2) - (b2 - a2) * (lx - a1) < 0 ∧ 0 ≤ (b1 - a1) * (hy - a2) - (b2 - a2) * (hx - a1)) := by
      rcases Int.lt_trichotomy (b2 - a2) 0 with hs | hs | hs
      · right
        by_cases hw : lx < hx
        · have := mul_le0 (show b2 - a2 ≤ 0 by omega) (show 0 ≤ hx - lx by omega)
          omega
        · have hw' : hx - lx = 0 := by omega
          rw [hw', Int.mul_zero] at e2
          omega
      · have z : (b2 - a2) * (hx - lx) = 0 := by rw [hs, Int.zero_mul]
        omega
      · left
        by_cases hw : lx < hx
        · have := Int.mul_nonneg (show 0 ≤ b2 - a2 by omega) (show 0 ≤ hx - lx by omega)
          omega
        · have hw' : hx - lx = 0 := by omega
          rw [hw', Int.mul_zero] at e2
          omega
    rcases hd with ⟨d1, d2, d3, d4⟩ | ⟨d1, d2, d3, d4⟩
    · have q1 := Int.mul_pos d1 (show 0 < lx - a1 by omega)
      have q2 : a2 < ly := by
        rcases Int.lt_or_le a2 ly with h | h
        · exact h
        · have := mul_le0' (show 0 ≤ b1 - a1 by omega) (show ly - a2 ≤ 0 by omega); omega
      have hb2 : ly ≤ b2 := by unfold Lap at h2; omega
      refine .inl ⟨by unfold Opp; omega, ?_, h1, by unfold Lap; omega⟩
      have z : ly - ly = 0 := by omega
      rw [z, Int.zero_mul, Int.zero_mul]
      have r1 := mul_le0' (show 0 ≤ hx - lx by omega) (show a2 - ly ≤ 0 by omega)
      have r2 := Int.mul_nonneg (show 0 ≤ hx - lx by omega) (show 0 ≤ b2 - ly by omega)
      unfold Opp; omega
    · have q1 := Int.mul_pos (show 0 < -(b2 - a2) by omega) (show 0 < lx - a1 by omega)
      rw [Int.neg_mul] at q1
      have q2 : hy < a2 := by
        rcases Int.lt_or_le hy a2 with h | h
        · exact h
        · have := Int.mul_nonneg (show 0 ≤ b1 - a1 by omega) (show 0 ≤ hy - a2 by omega); omega
      have hb2 : b2 ≤ hy := by unfold Lap at h2; omega
      refine .inr (.inr (.inl ⟨by unfold Opp; omega, ?_, by unfold Lap at *; omega, by unfold Lap; omega⟩))
      have z : hy - hy = 0 := by omega
      rw [z, Int.zero_mul, Int.zero_mul]
      have r1 := mul_le0 (show lx - hx ≤ 0 by omega) (show 0 ≤ a2 - hy by omega)
      have r2 := mul_ge0 (show lx - hx ≤ 0 by omega) (show b2 - hy ≤ 0 by omega)
      unfold Opp; omega

/-- A mirror, and the two coordinates changed for each other. -/
def mir (p : Int × Int) : Int × Int := (-p.1, p.2)
def chg (p : Int × Int) : Int × Int := (p.2, p.1)
theorem cr_mir (a b c : Int × Int) : cr (mir a) (mir b) (mir c) = -cr a b c := by unfold cr mir; grind
theorem cr_chg (a b c : Int × Int) : cr (chg a) (chg b) (chg c) = -cr a b c := by unfold cr chg; grind
theorem mp_mir {a b c d : Int × Int} (h : MP (mir a) (mir b) (mir c) (mir d)) : MP a b c d := by
  unfold MP at *
  simp only [cr_mir] at h
  obtain ⟨h1, h2, h3, h4⟩ := h
  refine ⟨by unfold Opp at *; omega, by unfold Opp at *; omega, ?_, h4⟩
  unfold Lap mir at *; simp only at *; omega
theorem mp_chg {a b c d : Int × Int} (h : MP (chg a) (chg b) (chg c) (chg d)) : MP a b c d := by
  unfold MP at *
  simp only [cr_chg] at h
  obtain ⟨h1, h2, h3, h4⟩ := h
  exact ⟨by unfold Opp at *; omega, by unfold Opp at *; omega, h4, h3⟩
theorem sat_mir {a b : Int × Int} {lx ly hx hy : Int} (h : SatP a b lx ly hx hy) : SatP (mir a) (mir b) (-hx) ly (-lx) hy := by
  obtain ⟨h1, h2, h3, h4⟩ := h
  have c1 : cr (mir a) (mir b) (-lx, ly) = -cr a b (lx, ly) := cr_mir a b (lx, ly)
  have c2 : cr (mir a) (mir b) (-hx, ly) = -cr a b (hx, ly) := cr_mir a b (hx, ly)
  have c3 : cr (mir a) (mir b) (-hx, hy) = -cr a b (hx, hy) := cr_mir a b (hx, hy)
  have c4 : cr (mir a) (mir b) (-lx, hy) = -cr a b (lx, hy) := cr_mir a b (lx, hy)
  refine ⟨by unfold Lap mir at *; simp only at *; omega, h2, by omega, by omega⟩
theorem sat_chg {a b : Int × Int} {lx ly hx hy : Int} (h : SatP a b lx ly hx hy) : SatP (chg a) (chg b) ly lx hy hx := by
  obtain ⟨h1, h2, h3, h4⟩ := h
  have c1 : cr (chg a) (chg b) (ly, lx) = -cr a b (lx, ly) := cr_chg a b (lx, ly)
  have c2 : cr (chg a) (chg b) (ly, hx) = -cr a b (hx, ly) := cr_chg a b (hx, ly)
  have c3 : cr (chg a) (chg b) (hy, hx) = -cr a b (hx, hy) := cr_chg a b (hx, hy)
  have c4 : cr (chg a) (chg b) (hy, lx) = -cr a b (lx, hy) := cr_chg a b (lx, hy)
  exact ⟨h2, h1, by omega, by omega⟩
theorem sides_mir {a b : Int × Int} {lx ly hx hy : Int} (h : SidesP (mir a) (mir b) (-hx) ly (-lx) hy) : SidesP a b lx ly hx hy := by
  unfold SidesP at h
  rcases h with h | h | h | h
  · exact .inl (mp_flip (mp_mir (c := (hx, ly)) (d := (lx, ly)) h))
  · exact .inr (.inr (.inr (mp_flip (mp_mir (c := (lx, ly)) (d := (lx, hy)) h))))
  · exact .inr (.inr (.inl (mp_flip (mp_mir (c := (lx, hy)) (d := (hx, hy)) h))))
  · exact .inr (.inl (mp_flip (mp_mir (c := (hx, hy)) (d := (hx, ly)) h)))
theorem sides_chg {a b : Int × Int} {lx ly hx hy : Int} (h : SidesP (chg a) (chg b) ly lx hy hx) : SidesP a b lx ly hx hy := by
  unfold SidesP at h
  rcases h with h | h | h | h
  · exact .inr (.inr (.inr (mp_flip (mp_chg (c := (lx, ly)) (d := (lx, hy)) h))))
  · exact .inr (.inr (.inl (mp_flip (mp_chg (c := (lx, hy)) (d := (hx, hy)) h))))
  · exact .inr (.inl (mp_flip (mp_chg (c := (hx, hy)) (d := (hx, ly)) h)))
  · exact .inl (mp_flip (mp_chg (c := (hx, ly)) (d := (lx, ly)) h))

theorem sides_right {a b : Int × Int} {lx ly hx hy : Int} (hx0 : lx ≤ hx) (hy0 : ly ≤ hy) (h : SatP a b lx ly hx hy) (hl : hx < a.1) : SidesP a b lx ly hx hy :=
  sides_mir (sides_left (by omega) hy0 (sat_mir h) (by unfold mir; simp only; omega))
theorem sides_of_sat {a b : Int × Int} {lx ly hx hy : Int} (hx0 : lx ≤ hx) (hy0 : ly ≤ hy) (h : SatP a b lx ly hx hy) (ha : ¬ InP lx ly hx hy a) : SidesP a b lx ly hx hy := by
  by_cases h1 : a.1 < lx
  · exact sides_left hx0 hy0 h h1
  · by_cases h2 : hx < a.1
    · exact sides_right hx0 hy0 h h2
    · by_cases h3 : a.2 < ly
      · exact sides_chg (sides_left hy0 hx0 (sat_chg h) h3)
      · exact sides_chg (sides_right hy0 hx0 (sat_chg h) (by unfold InP at ha; unfold chg; simp only; omega))

theorem box_diags {a b : Int × Int} {lx ly hx hy : Int} (hx0 : lx ≤ hx) (hy0 : ly ≤ hy) : (InP lx ly hx hy a ∨ InP lx ly hx hy b ∨ DiagsP a b lx ly hx hy) ↔ SatP a b lx ly hx hy := by
  constructor
  · rintro (h | h | h)
    · exact sat_of_in h
    · exact sat_of_in' h
    · exact sat_of_diags h
  · intro h
    by_cases ha : InP lx ly hx hy a
    · exact .inl ha
    · by_cases hb : InP lx ly hx hy b
      · exact .inr (.inl hb)
      · exact .inr (.inr (diags_of_sat hx0 hy0 h ha hb))
theorem box_sides {a b : Int × Int} {lx ly hx hy : Int} (hx0 : lx ≤ hx) (hy0 : ly ≤ hy) : (InP lx ly hx hy a ∨ SidesP a b lx ly hx hy) ↔ SatP a b lx ly hx hy := by
  constructor
  · rintro (h | h)
    · exact sat_of_in h
    · exact sat_of_sides h
  · intro h
    by_cases ha : InP lx ly hx hy a
    · exact .inl ha
    · exact .inr (sides_of_sat hx0 hy0 h ha)
theorem box_sides2 {a b : Int × Int} {lx ly hx hy : Int} (hx0 : lx ≤ hx) (hy0 : ly ≤ hy) : (InP lx ly hx hy a ∨ InP lx ly hx hy b ∨ SidesP a b lx ly hx hy) ↔ SatP a b lx ly hx hy := by
  constructor
  · rintro (h | h | h)
    · exact sat_of_in h
    · exact sat_of_in' h
    · exact sat_of_sides h
  · intro h
    rcases (box_sides hx0 hy0).2 h with h | h
    · exact .inl h
    · exact .inr (.inr h)
end Go.Proofs.Ytocpdphchignpaa
