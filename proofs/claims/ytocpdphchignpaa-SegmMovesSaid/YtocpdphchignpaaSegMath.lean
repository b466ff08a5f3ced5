/- Plain integer geometry: when two segments meet, when one meets a box, how far a point is from one. No function of the program is named here. -/
import Derived.Test.YtocpdphchignpaaBase
namespace Go.Proofs.Ytocpdphchignpaa

/-- Not on one side of nought. -/
def Opp (x y : Int) : Prop := (x ≤ 0 ∧ 0 ≤ y) ∨ (0 ≤ x ∧ y ≤ 0)
def SOpp (x y : Int) : Prop := (x < 0 ∧ 0 < y) ∨ (0 < x ∧ y < 0)
/-- Two spans have something in common. -/
def Lap (a b c d : Int) : Prop := (a ≤ c ∨ a ≤ d ∨ b ≤ c ∨ b ≤ d) ∧ (c ≤ a ∨ c ≤ b ∨ d ≤ a ∨ d ≤ b)

theorem mul_le0 {x y : Int} (hx : x ≤ 0) (hy : 0 ≤ y) : x * y ≤ 0 := by
  have := Int.mul_nonneg (a := -x) (b := y) (by omega) hy
  rw [Int.neg_mul] at this; omega
theorem mul_le0' {x y : Int} (hx : 0 ≤ x) (hy : y ≤ 0) : x * y ≤ 0 := by
  rw [Int.mul_comm]; exact mul_le0 hy hx
theorem mul_ge0 {x y : Int} (hx : x ≤ 0) (hy : y ≤ 0) : 0 ≤ x * y := by
  have := Int.mul_nonneg (a := -x) (b := -y) (by omega) (by omega)
  rwa [Int.neg_mul_neg] at this
theorem opp_iff (x y : Int) : Opp x y ↔ x * y ≤ 0 := by
  constructor
  · rintro (⟨h1, h2⟩ | ⟨h1, h2⟩)
    · exact mul_le0 h1 h2
    · exact mul_le0' h1 h2
  · intro h
    unfold Opp
    rcases Int.lt_trichotomy x 0 with hx | hx | hx
    · rcases Int.lt_or_le y 0 with hy | hy
      · have := Int.mul_pos (a := -x) (b := -y) (by omega) (by omega)
        rw [Int.neg_mul_neg] at this; omega
      · omega
    · omega
    · rcases Int.lt_or_le 0 y with hy | hy
      · have := Int.mul_pos hx hy; omega
      · omega
theorem sopp_iff (x y : Int) : SOpp x y ↔ x * y < 0 := by
  unfold SOpp
  rcases Int.lt_trichotomy x 0 with hx | hx | hx <;> rcases Int.lt_trichotomy y 0 with hy | hy | hy
  · have := Int.mul_pos (a := -x) (b := -y) (by omega) (by omega)
    rw [Int.neg_mul_neg] at this; omega
  · subst hy; simp
  · have := Int.mul_pos (a := -x) (b := y) (by omega) hy
    rw [Int.neg_mul] at this; omega
  · subst hx; simp
  · subst hx; simp
  · subst hx; simp
  · have := Int.mul_pos (a := x) (b := -y) hx (by omega)
    rw [Int.mul_neg] at this; omega
  · subst hy; simp
  · have := Int.mul_pos hx hy; omega
theorem sq_ge0 (x : Int) : 0 ≤ x * x := by
  rcases Int.le_total 0 x with h | h
  · exact Int.mul_nonneg h h
  · exact mul_ge0 h h
theorem sq_gt0 {x : Int} (h : x ≠ 0) : 0 < x * x := by
  have h1 := sq_ge0 x
  have h2 : x * x ≠ 0 := Int.mul_ne_zero h h
  omega
theorem le0_of_sq {k x y : Int} (hk : k ≠ 0) (h : x * (k * k) = y) (hy : y ≤ 0) : x ≤ 0 := by
  have h1 := sq_gt0 hk
  rcases Int.lt_or_le 0 x with hx | hx
  · have := Int.mul_pos hx h1; omega
  · exact hx

theorem line_opp {dx dy u1 u2 v1 v2 : Int} (hd : dx ≠ 0) (hu : dx * u2 = dy * u1) (hv : dx * v2 = dy * v1) (h : Opp u1 v1) : Opp u2 v2 := by
  rw [opp_iff] at h ⊢
  refine le0_of_sq (y := (dy * dy) * (u1 * v1)) hd ?_ (mul_le0' (sq_ge0 dy) h)
  have e : (dx * u2) * (dx * v2) = (dy * u1) * (dy * v1) := by rw [hu, hv]
  grind
theorem par_opp {px py qx qy ex ey : Int} (h : px * qy = py * qx) (hx : Opp px qx) (hy : Opp py qy) : Opp (ex * py - ey * px) (ex * qy - ey * qx) := by
  rw [opp_iff] at *
  by_cases hA : py * qy = 0
  · have hs : px * qy * (px * qy) = 0 := by
      have e : px * qy * (px * qy) = (py * qy) * (px * qx) := by
        calc px * qy * (px * qy) = px * qy * (py * qx) := by rw [h]
          _ = (py * qy) * (px * qx) := by grind
      rw [e, hA, Int.zero_mul]
    have hs0 : px * qy = 0 := by
      rcases Int.mul_eq_zero.1 hs with h' | h' <;> exact h'
    have e : (ex * py - ey * px) * (ex * qy - ey * qx) = (ey * ey) * (px * qx) := by
      have h0 : py * qx = 0 := by rw [← h]; exact hs0
      grind
    rw [e]
    exact mul_le0' (sq_ge0 ey) hx
  · have hA' : py * qy < 0 := by omega
    have e : (py * qy) * ((ex * py - ey * px) * (ex * qy - ey * qx)) = (ex * (py * qy) - ey * (px * qy)) * (ex * (py * qy) - ey * (px * qy)) := by
      grind
    have h1 := sq_ge0 (ex * (py * qy) - ey * (px * qy))
    rw [← e] at h1
    rcases Int.lt_or_le 0 ((ex * py - ey * px) * (ex * qy - ey * qx)) with h2 | h2
    · have := Int.mul_pos (a := -(py * qy)) (by omega) h2
      rw [Int.neg_mul] at this; omega
    · exact h2
theorem par_btw {px py qx qy ex ey : Int} (h : px * qy = py * qx) (hE : Opp (ex * py - ey * px) (ex * qy - ey * qx)) (hn : ¬ (ex * py - ey * px = 0 ∧ ex * qy - ey * qx = 0)) :
    Opp px qx ∧ Opp py qy := by
  rw [opp_iff] at *
  rw [opp_iff]
  have i1 : px * (ex * qy - ey * qx) = qx * (ex * py - ey * px) := by grind
  have i2 : py * (ex * qy - ey * qx) = qy * (ex * py - ey * px) := by grind
  generalize ex * py - ey * px = P at *
  generalize ex * qy - ey * qx = Q at *
  by_cases hP : P = 0
  · have hQ : Q ≠ 0 := fun hQ => hn ⟨hP, hQ⟩
    constructor
    · exact le0_of_sq (y := (qx * qx) * (P * Q)) hQ (by
        have : (px * Q) * (qx * Q) = (qx * P) * (qx * Q) := by rw [i1]
        grind) (mul_le0' (sq_ge0 qx) hE)
    · exact le0_of_sq (y := (qy * qy) * (P * Q)) hQ (by
        have : (py * Q) * (qy * Q) = (qy * P) * (qy * Q) := by rw [i2]
        grind) (mul_le0' (sq_ge0 qy) hE)
  · constructor
    · exact le0_of_sq (y := (px * px) * (P * Q)) hP (by
        have : (px * P) * (qx * P) = (px * P) * (px * Q) := by rw [i1]
        grind) (mul_le0' (sq_ge0 px) hE)
    · exact le0_of_sq (y := (py * py) * (P * Q)) hP (by
        have : (py * P) * (qy * P) = (py * P) * (py * Q) := by rw [i2]
        grind) (mul_le0' (sq_ge0 py) hE)

/-- Twice the area, with its sign. -/
def cr (a b c : Int × Int) : Int := (b.1 - a.1) * (c.2 - a.2) - (b.2 - a.2) * (c.1 - a.1)
def OnP (a b p : Int × Int) : Prop := cr a b p = 0 ∧ Opp (a.1 - p.1) (b.1 - p.1) ∧ Opp (a.2 - p.2) (b.2 - p.2)
def ProperP (a b c d : Int × Int) : Prop := SOpp (cr a b c) (cr a b d) ∧ SOpp (cr c d a) (cr c d b)
def MeetP (a b c d : Int × Int) : Prop := ProperP a b c d ∨ OnP a b c ∨ OnP a b d ∨ OnP c d a ∨ OnP c d b
/-- The same as signs and spans alone. -/
def MP (a b c d : Int × Int) : Prop := Opp (cr a b c) (cr a b d) ∧ Opp (cr c d a) (cr c d b) ∧ Lap a.1 b.1 c.1 d.1 ∧ Lap a.2 b.2 c.2 d.2

theorem cr_swap (a b c : Int × Int) : cr b a c = -cr a b c := by unfold cr; grind
theorem cr_diff (a b c d : Int × Int) : cr a b c - cr a b d = cr c d b - cr c d a := by unfold cr; grind
theorem cr_w1 (a b c d : Int × Int) : cr a b c * d.1 - cr a b d * c.1 = cr c d b * a.1 - cr c d a * b.1 := by unfold cr; grind
theorem cr_w2 (a b c d : Int × Int) : cr a b c * d.2 - cr a b d * c.2 = cr c d b * a.2 - cr c d a * b.2 := by unfold cr; grind

theorem lap_core {A B C D a b c d : Int} (h1 : A * d - B * c = D * a - C * b) (h2 : A - B = D - C) (hA : 0 < A) (hB : B < 0) (hC : C < 0) (hD : 0 < D) : ¬ (c < a ∧ d < a ∧ c < b ∧ d < b) := by
  rintro ⟨k1, k2, k3, k4⟩
  obtain ⟨k, hc, hd, ha, hb⟩ : ∃ k, c ≤ k ∧ d ≤ k ∧ k + 1 ≤ a ∧ k + 1 ≤ b := by
    rcases Int.le_total c d with h | h
    · exact ⟨d, by omega, by omega, by omega, by omega⟩
    · exact ⟨c, by omega, by omega, by omega, by omega⟩
  have p1 := Int.mul_nonneg (Int.le_of_lt hA) (show 0 ≤ k - d by omega)
  have p2 := Int.mul_nonneg (show 0 ≤ -B by omega) (show 0 ≤ k - c by omega)
  have p3 := Int.mul_nonneg (Int.le_of_lt hD) (show 0 ≤ a - (k + 1) by omega)
  have p4 := Int.mul_nonneg (show 0 ≤ -C by omega) (show 0 ≤ b - (k + 1) by omega)
  have e : (A - B) * k = (D - C) * k := by rw [h2]
  simp only [Int.sub_mul, Int.mul_sub, Int.mul_add, Int.neg_mul, Int.mul_one] at *
  omega
theorem lap_of {A B C D a b c d : Int} (h1 : A * d - B * c = D * a - C * b) (h2 : A - B = D - C) (hs : SOpp A B) (ht : SOpp C D) : Lap a b c d := by
  have g1 : A * -d - B * -c = D * -a - C * -b := by simp only [Int.mul_neg]; omega
  have g2 : -A * d - -B * c = -D * a - -C * b := by simp only [Int.neg_mul]; omega
  have g3 : -A * -d - -B * -c = -D * -a - -C * -b := by simp only [Int.neg_mul_neg]; omega
  rcases hs with ⟨hA, hB⟩ | ⟨hA, hB⟩
  · have hCD : 0 < C ∧ D < 0 := by unfold SOpp at ht; omega
    have n1 := lap_core g2 (by omega) (by omega) (by omega) (by omega) (by omega)
    have n2 := lap_core g3 (by omega) (by omega) (by omega) (by omega) (by omega)
    unfold Lap; omega
  · have hCD : C < 0 ∧ 0 < D := by unfold SOpp at ht; omega
    have n1 := lap_core h1 (by omega) (by omega) (by omega) (by omega) (by omega)
    have n2 := lap_core g1 (by omega) (by omega) (by omega) (by omega) (by omega)
    unfold Lap; omega

theorem opp_comm {x y : Int} (h : Opp x y) : Opp y x := by unfold Opp at *; omega
theorem lap_comm {a b c d : Int} (h : Lap a b c d) : Lap c d a b := by unfold Lap at *; omega
theorem mp_swap {a b c d : Int × Int} (h : MP a b c d) : MP c d a b := ⟨h.2.1, h.1, lap_comm h.2.2.1, lap_comm h.2.2.2⟩
theorem mp_flip {a b c d : Int × Int} (h : MP a b c d) : MP a b d c := by
  obtain ⟨h1, h2, h3, h4⟩ := h
  refine ⟨opp_comm h1, ?_, ?_, ?_⟩
  · rw [cr_swap c d a, cr_swap c d b]; unfold Opp at *; omega
  · unfold Lap at *; omega
  · unfold Lap at *; omega
theorem mp_flip' {a b c d : Int × Int} (h : MP a b c d) : MP b a c d := mp_swap (mp_flip (mp_swap h))

theorem on_par {a b c : Int × Int} (h : cr a b c = 0) : (a.1 - c.1) * (b.2 - c.2) = (a.2 - c.2) * (b.1 - c.1) := by
  unfold cr at h; grind
theorem cr_rel (a c d : Int × Int) : cr c d a = (d.1 - c.1) * (a.2 - c.2) - (d.2 - c.2) * (a.1 - c.1) := rfl
theorem on_mp {a b c : Int × Int} (d : Int × Int) (h : OnP a b c) : MP a b c d := by
  obtain ⟨h0, h1, h2⟩ := h
  refine ⟨by unfold Opp; omega, ?_, by unfold Lap; unfold Opp at h1; omega, by unfold Lap; unfold Opp at h2; omega⟩
  rw [cr_rel, cr_rel]
  exact par_opp (on_par h0) h1 h2

theorem collin1 {dx dy a1 a2 b1 b2 c1 c2 d1 d2 o1 o2 : Int} (hd : dx ≠ 0) (ha : dx * (a2 - o2) = dy * (a1 - o1)) (hb : dx * (b2 - o2) = dy * (b1 - o1)) (hc : dx * (c2 - o2) = dy * (c1 - o1)) (he : dx * (d2 - o2) = dy * (d1 - o1)) (h : Lap a1 b1 c1 d1) :
    (Opp (a1 - c1) (b1 - c1) ∧ Opp (a2 - c2) (b2 - c2)) ∨ (Opp (a1 - d1) (b1 - d1) ∧ Opp (a2 - d2) (b2 - d2)) ∨ (Opp (c1 - a1) (d1 - a1) ∧ Opp (c2 - a2) (d2 - a2)) ∨ (Opp (c1 - b1) (d1 - b1) ∧ Opp (c2 - b2) (d2 - b2)) := by
  have h4 : Opp (a1 - c1) (b1 - c1) ∨ Opp (a1 - d1) (b1 - d1) ∨ Opp (c1 - a1) (d1 - a1) ∨ Opp (c1 - b1) (d1 - b1) := by unfold Lap at h; unfold Opp; omega
  simp only [Int.mul_sub] at ha hb hc he
  rcases h4 with h | h | h | h
  · exact .inl ⟨h, line_opp (dy := dy) hd (by simp only [Int.mul_sub]; omega) (by simp only [Int.mul_sub]; omega) h⟩
  · exact .inr (.inl ⟨h, line_opp (dy := dy) hd (by simp only [Int.mul_sub]; omega) (by simp only [Int.mul_sub]; omega) h⟩)
  · exact .inr (.inr (.inl ⟨h, line_opp (dy := dy) hd (by simp only [Int.mul_sub]; omega) (by simp only [Int.mul_sub]; omega) h⟩))
  · exact .inr (.inr (.inr ⟨h, line_opp (dy := dy) hd (by simp only [Int.mul_sub]; omega) (by simp only [Int.mul_sub]; omega) h⟩))

theorem collin {a b c d : Int × Int} (hA : cr a b c = 0) (hB : cr a b d = 0) (hC : cr c d a = 0) (hD : cr c d b = 0) (h1 : Lap a.1 b.1 c.1 d.1) (h2 : Lap a.2 b.2 c.2 d.2) : MeetP a b c d := by
  have fin : ((Opp (a.1 - c.1) (b.1 - c.1) ∧ Opp (a.2 - c.2) (b.2 - c.2)) ∨ (Opp (a.1 - d.1) (b.1 - d.1) ∧ Opp (a.2 - d.2) (b.2 - d.2)) ∨ (Opp (c.1 - a.1) (d.1 - a.1) ∧ Opp (c.2 - a.2) (d.2 - a.2)) ∨ (Opp (c.1 - b.1) (d.1 - b.1) ∧ Opp (c.2 - b.2) (d.2 - b.2))) → MeetP a b c d := by
    rintro (h | h | h | h)
    · exact .inr (.inl ⟨hA, h⟩)
    · exact .inr (.inr (.inl ⟨hB, h⟩))
    · exact .inr (.inr (.inr (.inl ⟨hC, h⟩)))
    · exact .inr (.inr (.inr (.inr ⟨hD, h⟩)))
  obtain ⟨a1, a2⟩ := a; obtain ⟨b1, b2⟩ := b; obtain ⟨c1, c2⟩ := c; obtain ⟨d1, d2⟩ := d
  simp only [cr] at hA hB hC hD
  simp only at *
  by_cases e1 : b1 - a1 = 0
  · by_cases e2 : b2 - a2 = 0
    · by_cases e3 : d1 - c1 = 0
      · by_cases e4 : d2 - c2 = 0
        · apply fin; left; unfold Lap at h1 h2; unfold Opp; omega
        · have := collin1 (dx := d2 - c2) (dy := d1 - c1) (a1 := a2) (a2 := a1) (b1 := b2) (b2 := b1) (c1 := c2) (c2 := c1) (d1 := d2) (d2 := d1) (o1 := c2) (o2 := c1) e4 (by omega) (by omega) (by simp) (by rw [Int.mul_comm]) h2
          exact fin (by rcases this with ⟨x, y⟩ | ⟨x, y⟩ | ⟨x, y⟩ | ⟨x, y⟩ <;> simp [x, y])
      · have := collin1 (dx := d1 - c1) (dy := d2 - c2) (a1 := a1) (a2 := a2) (b1 := b1) (b2 := b2) (c1 := c1) (c2 := c2) (d1 := d1) (d2 := d2) (o1 := c1) (o2 := c2) e3 (by omega) (by omega) (by simp) (by rw [Int.mul_comm]) h1
        exact fin this
    · have := collin1 (dx := b2 - a2) (dy := b1 - a1) (a1 := a2) (a2 := a1) (b1 := b2) (b2 := b1) (c1 := c2) (c2 := c1) (d1 := d2) (d2 := d1) (o1 := a2) (o2 := a1) e2 (by simp) (by rw [Int.mul_comm]) (by omega) (by omega) h2
      exact fin (by rcases this with ⟨x, y⟩ | ⟨x, y⟩ | ⟨x, y⟩ | ⟨x, y⟩ <;> simp [x, y])
  · have := collin1 (dx := b1 - a1) (dy := b2 - a2) (a1 := a1) (a2 := a2) (b1 := b1) (b2 := b2) (c1 := c1) (c2 := c2) (d1 := d1) (d2 := d2) (o1 := a1) (o2 := a2) e1 (by simp) (by rw [Int.mul_comm]) (by omega) (by omega) h1
    exact fin this

theorem meet_of_zero {a b c d : Int × Int} (h : MP a b c d) (hA : cr a b c = 0) : MeetP a b c d := by
  obtain ⟨h1, h2, h3, h4⟩ := h
  by_cases hn : cr c d a = 0 ∧ cr c d b = 0
  · have := cr_diff a b c d
    exact collin hA (by omega) hn.1 hn.2 h3 h4
  · rw [cr_rel, cr_rel] at hn h2
    exact .inr (.inl ⟨hA, par_btw (on_par hA) h2 hn⟩)

theorem meetP_swap {a b c d : Int × Int} (h : MeetP a b c d) : MeetP c d a b := by
  rcases h with h | h | h | h | h
  · exact .inl ⟨h.2, h.1⟩
  · exact .inr (.inr (.inr (.inl h)))
  · exact .inr (.inr (.inr (.inr h)))
  · exact .inr (.inl h)
  · exact .inr (.inr (.inl h))
theorem properP_flip {a b c d : Int × Int} (h : ProperP a b c d) : ProperP a b d c := by
  obtain ⟨h1, h2⟩ := h
  refine ⟨by unfold SOpp at *; omega, ?_⟩
  rw [cr_swap c d a, cr_swap c d b]; unfold SOpp at *; omega
theorem onP_flip {a b p : Int × Int} (h : OnP a b p) : OnP b a p := by
  refine ⟨by rw [cr_swap, h.1]; rfl, opp_comm h.2.1, opp_comm h.2.2⟩
theorem meetP_flip {a b c d : Int × Int} (h : MeetP a b c d) : MeetP a b d c := by
  rcases h with h | h | h | h | h
  · exact .inl (properP_flip h)
  · exact .inr (.inr (.inl h))
  · exact .inr (.inl h)
  · exact .inr (.inr (.inr (.inl (onP_flip h))))
  · exact .inr (.inr (.inr (.inr (onP_flip h))))

theorem meet_mp {a b c d : Int × Int} (h : MeetP a b c d) : MP a b c d := by
  rcases h with ⟨h1, h2⟩ | h | h | h | h
  · refine ⟨by unfold SOpp at h1; unfold Opp; omega, by unfold SOpp at h2; unfold Opp; omega, lap_of (cr_w1 a b c d) (cr_diff a b c d) h1 h2, lap_of (cr_w2 a b c d) (cr_diff a b c d) h1 h2⟩
  · exact on_mp d h
  · exact mp_flip (on_mp c h)
  · exact mp_swap (on_mp b h)
  · exact mp_flip' (mp_swap (on_mp a h))
theorem mp_meet {a b c d : Int × Int} (h : MP a b c d) : MeetP a b c d := by
  by_cases hA : cr a b c = 0
  · exact meet_of_zero h hA
  · by_cases hB : cr a b d = 0
    · exact meetP_flip (meet_of_zero (mp_flip h) hB)
    · by_cases hC : cr c d a = 0
      · exact meetP_swap (meet_of_zero (mp_swap h) hC)
      · by_cases hD : cr c d b = 0
        · exact meetP_swap (meetP_flip (meet_of_zero (mp_flip (mp_swap h)) hD))
        · obtain ⟨h1, h2, _⟩ := h
          exact .inl ⟨by unfold Opp at h1; unfold SOpp; omega, by unfold Opp at h2; unfold SOpp; omega⟩
theorem meet_iff (a b c d : Int × Int) : MeetP a b c d ↔ MP a b c d := ⟨meet_mp, mp_meet⟩
end Go.Proofs.Ytocpdphchignpaa
