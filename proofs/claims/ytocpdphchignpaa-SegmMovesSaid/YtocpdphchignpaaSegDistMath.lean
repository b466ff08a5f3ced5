/- Plain integer geometry: how far a point is from a segment, as a fraction. No function of the program is named here. -/
import Derived.Test.YtocpdphchignpaaSegMath
namespace Go.Proofs.Ytocpdphchignpaa

def dt (o a b : Int × Int) : Int := (a.1 - o.1) * (b.1 - o.1) + (a.2 - o.2) * (b.2 - o.2)
def sqd (a b : Int × Int) : Int := (a.1 - b.1) * (a.1 - b.1) + (a.2 - b.2) * (a.2 - b.2)
/-- The square of a point's distance to a segment, above and below the line. -/
def segN (a b p : Int × Int) : Int := if a = b ∨ dt a b p ≤ 0 then sqd a p else if dt b a p ≤ 0 then sqd b p else cr a b p * cr a b p
def segD (a b p : Int × Int) : Int := if a = b ∨ dt a b p ≤ 0 then 1 else if dt b a p ≤ 0 then 1 else sqd a b

theorem lag (a b p : Int × Int) : cr a b p * cr a b p + dt a b p * dt a b p = sqd a b * sqd a p := by unfold cr dt sqd; grind
theorem dt_sum (a b p : Int × Int) : dt a b p + dt b a p = sqd a b := by unfold dt sqd; grind
theorem sqd_far (a b p : Int × Int) : sqd b p = sqd a p - 2 * dt a b p + sqd a b := by unfold dt sqd; grind
theorem sqd_comm (a b : Int × Int) : sqd a b = sqd b a := by unfold sqd; grind
theorem sqd_ge (a b : Int × Int) : 0 ≤ sqd a b := by
  have h1 := sq_ge0 (a.1 - b.1)
  have h2 := sq_ge0 (a.2 - b.2)
  unfold sqd; omega
theorem sqd_self (a : Int × Int) : sqd a a = 0 := by unfold sqd; simp
theorem sqd_pos {a b : Int × Int} (h : a ≠ b) : 0 < sqd a b := by
  have h1 := sq_ge0 (a.1 - b.1)
  have h2 := sq_ge0 (a.2 - b.2)
  by_cases e1 : a.1 - b.1 = 0
  · by_cases e2 : a.2 - b.2 = 0
    · exact absurd (Prod.ext (by omega) (by omega)) h
    · have := sq_gt0 e2; unfold sqd; omega
  · have := sq_gt0 e1; unfold sqd; omega
theorem sqd_zero {a b : Int × Int} : sqd a b = 0 ↔ a = b := by
  constructor
  · intro h
    by_cases e : a = b
    · exact e
    · have := sqd_pos e; omega
  · rintro rfl; exact sqd_self a
theorem segD_pos (a b p : Int × Int) : 0 < segD a b p := by
  unfold segD
  split
  · omega
  · split
    · omega
    · rename_i h _; exact sqd_pos fun e => h (.inl e)
theorem segN_ge (a b p : Int × Int) : 0 ≤ segN a b p := by
  unfold segN
  split
  · exact sqd_ge a p
  · split
    · exact sqd_ge b p
    · exact sq_ge0 _
theorem seg_flip (a b p : Int × Int) : segN b a p = segN a b p ∧ segD b a p = segD a b p := by
  by_cases e : a = b
  · subst e; exact ⟨rfl, rfl⟩
  · have e' : ¬ b = a := fun h => e h.symm
    have h1 := dt_sum a b p
    have h2 := sqd_pos e
    have hc : cr b a p * cr b a p = cr a b p * cr a b p := by rw [cr_swap a b p, Int.neg_mul_neg]
    unfold segN segD
    simp only [e, e', false_or]
    by_cases k1 : dt a b p ≤ 0
    · have k2 : ¬ dt b a p ≤ 0 := by omega
      simp [k1, k2]
    · by_cases k2 : dt b a p ≤ 0
      · simp [k1, k2]
      · simp only [k1, k2, if_false]
        exact ⟨hc, sqd_comm b a⟩
theorem seg_same (a p : Int × Int) : segN a a p = sqd a p ∧ segD a a p = 1 := by unfold segN segD; simp

/-- A point of the segment's line that is between the ends is on it. -/
theorem on_of_dt {a b p : Int × Int} (h0 : cr a b p = 0) (h1 : 0 ≤ dt a b p) (h2 : 0 ≤ dt b a p) (hne : a ≠ b) : OnP a b p := by
  have hL := sqd_pos hne
  have hs := dt_sum a b p
  obtain ⟨a1, a2⟩ := a; obtain ⟨b1, b2⟩ := b; obtain ⟨p1, p2⟩ := p
  have i1 : (p1 - a1) * sqd (a1, a2) (b1, b2) = (b1 - a1) * dt (a1, a2) (b1, b2) (p1, p2) := by unfold cr at h0; unfold sqd dt; grind
  have i2 : (p2 - a2) * sqd (a1, a2) (b1, b2) = (b2 - a2) * dt (a1, a2) (b1, b2) (p1, p2) := by unfold cr at h0; unfold sqd dt; grind
  have j1 : (b1 - p1) * sqd (a1, a2) (b1, b2) = (b1 - a1) * dt (b1, b2) (a1, a2) (p1, p2) := by unfold cr at h0; unfold sqd dt; grind
  have j2 : (b2 - p2) * sqd (a1, a2) (b1, b2) = (b2 - a2) * dt (b1, b2) (a1, a2) (p1, p2) := by unfold cr at h0; unfold sqd dt; grind
  generalize sqd (a1, a2) (b1, b2) = L at *
  generalize dt (a1, a2) (b1, b2) (p1, p2) = u at *
  generalize dt (b1, b2) (a1, a2) (p1, p2) = v at *
  have huv := Int.mul_nonneg h1 h2
  refine ⟨h0, ?_, ?_⟩
  · rw [opp_iff]
    refine le0_of_sq (k := L) (y := -((b1 - a1) * (b1 - a1) * (u * v))) (by omega) ?_ ?_
    · have : ((p1 - a1) * L) * ((b1 - p1) * L) = ((b1 - a1) * u) * ((b1 - a1) * v) := by rw [i1, j1]
      simp only
      grind
    · have := Int.mul_nonneg (sq_ge0 (b1 - a1)) huv; omega
  · rw [opp_iff]
    refine le0_of_sq (k := L) (y := -((b2 - a2) * (b2 - a2) * (u * v))) (by omega) ?_ ?_
    · have : ((p2 - a2) * L) * ((b2 - p2) * L) = ((b2 - a2) * u) * ((b2 - a2) * v) := by rw [i2, j2]
      simp only
      grind
    · have := Int.mul_nonneg (sq_ge0 (b2 - a2)) huv; omega
theorem on_end1 (a b : Int × Int) : OnP a b a := ⟨by unfold cr; grind, by unfold Opp; omega, by unfold Opp; omega⟩
theorem on_end2 (a b : Int × Int) : OnP a b b := onP_flip (on_end1 b a)
/-- On the segment: the steps to both ends do not go the same way. -/
theorem dt_of_on {a b p : Int × Int} (h : OnP a b p) : 0 ≤ dt a b p ∧ (dt a b p = 0 → a = b ∨ p = a) := by
  obtain ⟨h0, h1, h2⟩ := h
  obtain ⟨a1, a2⟩ := a; obtain ⟨b1, b2⟩ := b; obtain ⟨p1, p2⟩ := p
  simp only at h1 h2
  have m1 : 0 ≤ (b1 - a1) * (p1 - a1) ∧ ((b1 - a1) * (p1 - a1) = 0 → p1 = a1 ∨ b1 = a1) := by
    constructor
    · rcases Int.le_total a1 b1 with h | h
      · exact Int.mul_nonneg (by omega) (by unfold Opp at h1; omega)
      · exact mul_ge0 (by omega) (by unfold Opp at h1; omega)
    · intro h; rcases Int.mul_eq_zero.1 h with h | h <;> omega
  have m2 : 0 ≤ (b2 - a2) * (p2 - a2) ∧ ((b2 - a2) * (p2 - a2) = 0 → p2 = a2 ∨ b2 = a2) := by
    constructor
    · rcases Int.le_total a2 b2 with h | h
      · exact Int.mul_nonneg (by omega) (by unfold Opp at h2; omega)
      · exact mul_ge0 (by omega) (by unfold Opp at h2; omega)
    · intro h; rcases Int.mul_eq_zero.1 h with h | h <;> omega
  unfold dt
  simp only
  refine ⟨by omega, fun hz => ?_⟩
  have z1 := m1.2 (by omega)
  have z2 := m2.2 (by omega)
  have g1 : p1 = a1 := by unfold Opp at h1; omega
  have g2 : p2 = a2 := by unfold Opp at h2; omega
  right; rw [g1, g2]
/-- 0 away just if it is on it. -/
theorem seg_zero (a b p : Int × Int) : segN a b p = 0 ↔ OnP a b p := by
  unfold segN
  by_cases e : a = b
  · subst e
    simp only [true_or, if_true]
    rw [sqd_zero]
    constructor
    · rintro rfl; exact on_end1 a a
    · rintro ⟨_, h1, h2⟩
      unfold Opp at h1 h2
      exact Prod.ext (by omega) (by omega)
  · simp only [e, false_or]
    by_cases k1 : dt a b p ≤ 0
    · simp only [k1, if_true]
      rw [sqd_zero]
      constructor
      · rintro rfl; exact on_end1 a b
      · intro h
        obtain ⟨g1, g2⟩ := dt_of_on h
        rcases g2 (by omega) with g | g
        · exact absurd g e
        · exact g.symm
    · simp only [k1, if_false]
      by_cases k2 : dt b a p ≤ 0
      · simp only [k2, if_true]
        rw [sqd_zero]
        constructor
        · rintro rfl; exact on_end2 a b
        · intro h
          obtain ⟨g1, g2⟩ := dt_of_on (onP_flip h)
          rcases g2 (by omega) with g | g
          · exact absurd g.symm e
          · exact g.symm
      · simp only [k2, if_false]
        constructor
        · intro h
          have hz : cr a b p = 0 := by rcases Int.mul_eq_zero.1 h with h | h <;> exact h
          exact on_of_dt hz (by omega) (by omega) e
        · intro h; rw [h.1]; rfl
/-- Not farther than the first end. -/
theorem seg_le (a b p : Int × Int) : segN a b p ≤ sqd a p * segD a b p := by
  unfold segN segD
  by_cases e : a = b ∨ dt a b p ≤ 0
  · simp only [e, if_true]; omega
  · simp only [e, if_false]
    by_cases k2 : dt b a p ≤ 0
    · simp only [k2, if_true]
      have := sqd_far a b p
      have := dt_sum a b p
      have := sqd_ge a b
      omega
    · simp only [k2, if_false]
      have := lag a b p
      have := sq_ge0 (dt a b p)
      rw [Int.mul_comm (sqd a p)]; omega
theorem seg_le' (a b p : Int × Int) : segN a b p ≤ sqd b p * segD a b p := by
  have := seg_le b a p
  rw [(seg_flip a b p).1, (seg_flip a b p).2] at this
  exact this

/-- Moved together. -/
def mv (x y : Int) (a : Int × Int) : Int × Int := (a.1 + x, a.2 + y)
theorem cr_mv (x y : Int) (a b c : Int × Int) : cr (mv x y a) (mv x y b) (mv x y c) = cr a b c := by unfold cr mv; grind
theorem dt_mv (x y : Int) (a b c : Int × Int) : dt (mv x y a) (mv x y b) (mv x y c) = dt a b c := by unfold dt mv; grind
theorem sqd_mv (x y : Int) (a b : Int × Int) : sqd (mv x y a) (mv x y b) = sqd a b := by unfold sqd mv; grind
theorem mv_inj (x y : Int) (a b : Int × Int) : mv x y a = mv x y b ↔ a = b := by
  unfold mv
  constructor
  · intro h; injection h with h1 h2; exact Prod.ext (by omega) (by omega)
  · rintro rfl; rfl
theorem seg_mv (x y : Int) (a b p : Int × Int) : segN (mv x y a) (mv x y b) (mv x y p) = segN a b p ∧ segD (mv x y a) (mv x y b) (mv x y p) = segD a b p := by
  unfold segN segD
  rw [dt_mv, dt_mv, sqd_mv, sqd_mv, sqd_mv, cr_mv]
  simp only [mv_inj, and_self]
theorem onP_mv (x y : Int) (a b p : Int × Int) : OnP (mv x y a) (mv x y b) (mv x y p) ↔ OnP a b p := by
  unfold OnP
  rw [cr_mv]
  unfold mv Opp
  simp only
  constructor <;> (rintro ⟨h0, h1, h2⟩; exact ⟨h0, by omega, by omega⟩)
theorem properP_mv (x y : Int) (a b c d : Int × Int) : ProperP (mv x y a) (mv x y b) (mv x y c) (mv x y d) ↔ ProperP a b c d := by
  unfold ProperP
  simp only [cr_mv]
theorem meetP_mv (x y : Int) (a b c d : Int × Int) : MeetP (mv x y a) (mv x y b) (mv x y c) (mv x y d) ↔ MeetP a b c d := by
  unfold MeetP
  simp only [onP_mv, properP_mv]

/-- A point so many steps on. -/
def stp (a : Int × Int) (x y k : Int) : Int × Int := (a.1 + k * x, a.2 + k * y)
/-- L times the value. -/
def valV (C E L s t : Int) : Int := if s = t ∨ E ≤ s * L then C * C + (E - s * L) * (E - s * L) else if t * L ≤ E then C * C + (E - t * L) * (E - t * L) else C * C
theorem seg_val (a p : Int × Int) (x y s t : Int) (hst : s ≤ t) (hL : 0 < x * x + y * y) :
    segN (stp a x y s) (stp a x y t) p * (x * x + y * y) = valV (x * (p.2 - a.2) - y * (p.1 - a.1)) (x * (p.1 - a.1) + y * (p.2 - a.2)) (x * x + y * y) s t * segD (stp a x y s) (stp a x y t) p := by
  have he : stp a x y s = stp a x y t ↔ s = t := by
    constructor
    · intro h
      unfold stp at h
      injection h with h1 h2
      have z1 : (s - t) * x = 0 := by rw [Int.sub_mul]; omega
      have z2 : (s - t) * y = 0 := by rw [Int.sub_mul]; omega
      rcases Int.mul_eq_zero.1 z1 with h | h
      · omega
      · rcases Int.mul_eq_zero.1 z2 with h' | h'
        · omega
        · rw [h, h'] at hL; omega
    · rintro rfl; rfl
  have d1 : dt (stp a x y s) (stp a x y t) p = (t - s) * ((x * (p.1 - a.1) + y * (p.2 - a.2)) - s * (x * x + y * y)) := by unfold dt stp; grind
  have d2 : dt (stp a x y t) (stp a x y s) p = (t - s) * (t * (x * x + y * y) - (x * (p.1 - a.1) + y * (p.2 - a.2))) := by unfold dt stp; grind
  have c1 : cr (stp a x y s) (stp a x y t) p = (t - s) * (x * (p.2 - a.2) - y * (p.1 - a.1)) := by unfold cr stp; grind
  have q1 : sqd (stp a x y s) (stp a x y t) = (t - s) * (t - s) * (x * x + y * y) := by unfold sqd stp; grind
  have v1 : ∀ s, sqd (stp a x y s) p * (x * x + y * y) = (x * (p.2 - a.2) - y * (p.1 - a.1)) * (x * (p.2 - a.2) - y * (p.1 - a.1)) + ((x * (p.1 - a.1) + y * (p.2 - a.2)) - s * (x * x + y * y)) * ((x * (p.1 - a.1) + y * (p.2 - a.2)) - s * (x * x + y * y)) := by
    intro s; unfold sqd stp; grind
  unfold segN segD valV
  rw [d1, d2, c1, q1]
  simp only [he]
  generalize x * (p.2 - a.2) - y * (p.1 - a.1) = C at *
  generalize x * (p.1 - a.1) + y * (p.2 - a.2) = E at *
  generalize x * x + y * y = L at *
  by_cases h0 : s = t
  · simp only [h0, true_or, if_true]
    rw [v1, Int.mul_one]
  · have hlt : 0 < t - s := by omega
    have k1 : (t - s) * (E - s * L) ≤ 0 ↔ E ≤ s * L := by
      constructor
      · intro h
        rcases Int.lt_or_le (s * L) E with h' | h'
        · have := Int.mul_pos hlt (show 0 < E - s * L by omega); omega
        · exact h'
      · intro h; exact mul_le0' (by omega) (by omega)
    have k2 : (t - s) * (t * L - E) ≤ 0 ↔ t * L ≤ E := by
      constructor
      · intro h
        rcases Int.lt_or_le E (t * L) with h' | h'
        · have := Int.mul_pos hlt (show 0 < t * L - E by omega); omega
        · exact h'
      · intro h; exact mul_le0' (by omega) (by omega)
    simp only [h0, false_or, k1, k2]
    by_cases h1 : E ≤ s * L
    · simp only [h1, if_true]
      rw [v1, Int.mul_one]
    · simp only [h1, if_false]
      by_cases h2 : t * L ≤ E
      · simp only [h2, if_true]
        rw [v1, Int.mul_one]
      · simp only [h2, if_false]
        grind

theorem sq_le_sq {u v : Int} (h1 : u ≤ v) (h2 : -v ≤ u) : u * u ≤ v * v := by
  have := Int.mul_nonneg (show 0 ≤ v - u by omega) (show 0 ≤ v + u by omega)
  rw [Int.sub_mul, Int.mul_add, Int.mul_add, Int.mul_comm u v] at this; omega
theorem val_cut (C E L i n : Int) (hL : 0 < L) (hi : 0 ≤ i) (hn : i ≤ n) :
    valV C E L 0 n = if valV C E L i n < valV C E L 0 i then valV C E L i n else valV C E L 0 i := by
  have hiL : 0 ≤ i * L := Int.mul_nonneg hi (Int.le_of_lt hL)
  have hnL : 0 ≤ (n - i) * L := Int.mul_nonneg (by omega) (Int.le_of_lt hL)
  rw [Int.sub_mul] at hnL
  have hi0 : i ≠ 0 → 0 < i * L := fun h => Int.mul_pos (by omega) hL
  have hni : i ≠ n → 0 < (n - i) * L := fun h => Int.mul_pos (by omega) hL
  rw [Int.sub_mul] at hni
  unfold valV
  rw [Int.zero_mul]
  by_cases c1 : E ≤ 0
  · have := sq_le_sq (u := E - 0) (v := -(E - i * L)) (by omega) (by omega)
    rw [Int.neg_mul_neg] at this
    have e2 : E ≤ i * L := by omega
    simp only [c1, e2, or_true, if_true]
    rw [if_neg (by omega)]
  · by_cases c2 : E < i * L
    · have g := sq_ge0 (E - i * L)
      have e1 : ¬ (0 = n ∨ E ≤ 0) := by
        rintro (h | h)
        · have : i = 0 := by omega
          subst this; omega
        · omega
      have e2 : ¬ n * L ≤ E := by omega
      have e3 : ¬ (0 = i ∨ E ≤ 0) := by
        rintro (h | h)
        · subst h; omega
        · omega
      have e4 : ¬ i * L ≤ E := by omega
      have e5 : i = n ∨ E ≤ i * L := by omega
      simp only [e1, e2, e3, e4, e5, if_true, if_false]
      rw [if_neg (by omega)]
    · -- both parts meet at the nearer end, or behind it
      have e3 : (if 0 = i ∨ E ≤ 0 then C * C + (E - 0) * (E - 0) else if i * L ≤ E then C * C + (E - i * L) * (E - i * L) else C * C) = C * C + (E - i * L) * (E - i * L) := by
        by_cases h : 0 = i ∨ E ≤ 0
        · have : i = 0 := by omega
          subst this; simp
        · rw [if_neg h, if_pos (by omega)]
      rw [e3]
      by_cases c3 : i = n ∨ E ≤ i * L
      · rw [if_pos c3, if_neg (Int.lt_irrefl (C * C + (E - i * L) * (E - i * L)))]
        rcases c3 with h | h
        · subst h; exact e3
        · have hE : E = i * L := by omega
          have hn0 : ¬ (0 = n ∨ E ≤ 0) := by
            rintro (h | h)
            · have : i = 0 := by omega
              subst this; omega
            · omega
          rw [if_neg hn0]
          by_cases hn2 : n * L ≤ E
          · rw [if_pos hn2]
            have : n * L = i * L := by omega
            rw [this]
          · rw [if_neg hn2, hE]; simp
      · have hn0 : ¬ (0 = n ∨ E ≤ 0) := by
          rintro (h | h) <;> omega
        rw [if_neg c3, if_neg hn0]
        by_cases hn2 : n * L ≤ E
        · rw [if_pos hn2]
          have := sq_le_sq (u := E - n * L) (v := E - i * L) (by omega) (by omega)
          by_cases hlt : C * C + (E - n * L) * (E - n * L) < C * C + (E - i * L) * (E - i * L)
          · rw [if_pos hlt]
          · rw [if_neg hlt]; omega
        · rw [if_neg hn2]
          have := sq_gt0 (x := E - i * L) (by omega)
          rw [if_pos (by omega)]

/-- Fractions stand as their values. -/
theorem frac_lt {N1 D1 N2 D2 V1 V2 L : Int} (hL : 0 < L) (h1 : 0 < D1) (h2 : 0 < D2) (e1 : N1 * L = V1 * D1) (e2 : N2 * L = V2 * D2) : (N1 * D2 < N2 * D1 ↔ V1 < V2) ∧ (N1 * D2 = N2 * D1 ↔ V1 = V2) := by
  have k : (N1 * D2 - N2 * D1) * L = (V1 - V2) * (D1 * D2) := by
    have a1 : N1 * L * D2 = V1 * D1 * D2 := by rw [e1]
    have a2 : N2 * L * D1 = V2 * D2 * D1 := by rw [e2]
    grind
  have hD := Int.mul_pos h1 h2
  rcases Int.lt_trichotomy V1 V2 with h | h | h
  · have p := Int.mul_pos (show 0 < V2 - V1 by omega) hD
    have e : (V2 - V1) * (D1 * D2) = -((V1 - V2) * (D1 * D2)) := by rw [← Int.neg_mul]; congr 1; omega
    have n : N1 * D2 < N2 * D1 := by
      rcases Int.lt_or_le (N1 * D2) (N2 * D1) with h' | h'
      · exact h'
      · have := Int.mul_nonneg (show 0 ≤ N1 * D2 - N2 * D1 by omega) (Int.le_of_lt hL); omega
    exact ⟨⟨fun _ => h, fun _ => n⟩, ⟨fun h' => by omega, fun h' => by omega⟩⟩
  · rw [h, Int.sub_self, Int.zero_mul] at k
    have n : N1 * D2 - N2 * D1 = 0 := by rcases Int.mul_eq_zero.1 k with h' | h' <;> omega
    exact ⟨⟨fun h' => by omega, fun h' => by omega⟩, ⟨fun _ => h, fun _ => by omega⟩⟩
  · have p := Int.mul_pos (show 0 < V1 - V2 by omega) hD
    have n : N2 * D1 < N1 * D2 := by
      rcases Int.lt_or_le (N2 * D1) (N1 * D2) with h' | h'
      · exact h'
      · have := mul_le0 (show N1 * D2 - N2 * D1 ≤ 0 by omega) (Int.le_of_lt hL); omega
    exact ⟨⟨fun h' => by omega, fun h' => by omega⟩, ⟨fun h' => by omega, fun h' => by omega⟩⟩

/-- A point of a segment cuts it in two: as far as from the nearer part. -/
theorem seg_cut (a p : Int × Int) (x y i j : Int) (hi : 0 ≤ i) (hj : 0 ≤ j) :
    let m := stp a x y i
    let b := stp a x y (i + j)
    (segN m b p * segD a m p < segN a m p * segD m b p → segN a b p * segD m b p = segN m b p * segD a b p) ∧
      (¬ segN m b p * segD a m p < segN a m p * segD m b p → segN a b p * segD a m p = segN a m p * segD a b p) := by
  have e0 : stp a x y 0 = a := by unfold stp; simp
  by_cases hz : x = 0 ∧ y = 0
  · obtain ⟨rfl, rfl⟩ := hz
    have es : ∀ k, stp a 0 0 k = a := fun k => by unfold stp; simp
    simp only [es]
    rw [(seg_same a p).1, (seg_same a p).2]
    simp
  · have hL : 0 < x * x + y * y := by
      have g1 := sq_ge0 x; have g2 := sq_ge0 y
      by_cases hx : x = 0
      · have := sq_gt0 (x := y) (fun h => hz ⟨hx, h⟩); omega
      · have := sq_gt0 hx; omega
    have v1 := seg_val a p x y 0 i hi hL
    have v2 := seg_val a p x y i (i + j) (by omega) hL
    have v3 := seg_val a p x y 0 (i + j) (by omega) hL
    have hc := val_cut (x * (p.2 - a.2) - y * (p.1 - a.1)) (x * (p.1 - a.1) + y * (p.2 - a.2)) (x * x + y * y) i (i + j) hL hi (by omega)
    rw [e0] at v1 v3
    intro m b
    have f12 := frac_lt hL (segD_pos m b p) (segD_pos a m p) v2 v1
    have f32 := frac_lt hL (segD_pos a b p) (segD_pos m b p) v3 v2
    have f31 := frac_lt hL (segD_pos a b p) (segD_pos a m p) v3 v1
    rw [f12.1, f32.2, f31.2]
    constructor
    · intro h; rw [hc, if_pos h]
    · intro h; rw [hc, if_neg h]
theorem on_cut (a p : Int × Int) (x y i j : Int) (hi : 0 ≤ i) (hj : 0 ≤ j) :
    OnP a (stp a x y (i + j)) p ↔ OnP a (stp a x y i) p ∨ OnP (stp a x y i) (stp a x y (i + j)) p := by
  have h := seg_cut a p x y i j hi hj
  dsimp only at h
  rw [← seg_zero, ← seg_zero, ← seg_zero]
  have d1 := segD_pos a (stp a x y i) p
  have d2 := segD_pos (stp a x y i) (stp a x y (i + j)) p
  have d3 := segD_pos a (stp a x y (i + j)) p
  have n1 := segN_ge a (stp a x y i) p
  have n2 := segN_ge (stp a x y i) (stp a x y (i + j)) p
  generalize segN a (stp a x y (i + j)) p = N at *
  generalize segD a (stp a x y (i + j)) p = D at *
  generalize segN a (stp a x y i) p = N1 at *
  generalize segD a (stp a x y i) p = D1 at *
  generalize segN (stp a x y i) (stp a x y (i + j)) p = N2 at *
  generalize segD (stp a x y i) (stp a x y (i + j)) p = D2 at *
  have zero : ∀ {u v w z : Int}, 0 < v → 0 < z → u * v = w * z → (u = 0 ↔ w = 0) := by
    intro u v w z hv hz e
    constructor
    · rintro rfl; rw [Int.zero_mul] at e
      rcases Int.mul_eq_zero.1 e.symm with h | h <;> omega
    · rintro rfl; rw [Int.zero_mul] at e
      rcases Int.mul_eq_zero.1 e with h | h <;> omega
  by_cases hlt : N2 * D1 < N1 * D2
  · rw [zero d2 d3 (h.1 hlt)]
    constructor
    · exact .inr
    · rintro (h1 | h1)
      · subst h1
        rw [Int.zero_mul] at hlt
        have := Int.mul_nonneg n2 (Int.le_of_lt d1); omega
      · exact h1
  · rw [zero d1 d3 (h.2 hlt)]
    constructor
    · exact .inl
    · rintro (h1 | h1)
      · exact h1
      · subst h1
        rw [Int.zero_mul] at hlt
        rcases Int.lt_or_le 0 N1 with h' | h'
        · have := Int.mul_pos h' d2; omega
        · omega
theorem on_stp (a : Int × Int) (x y i j : Int) (hi : 0 ≤ i) (hj : 0 ≤ j) : OnP a (stp a x y (i + j)) (stp a x y i) := by
  refine ⟨by unfold cr stp; grind, ?_, ?_⟩
  · rw [opp_iff]; unfold stp; simp only
    have e : (a.1 - (a.1 + i * x)) * (a.1 + (i + j) * x - (a.1 + i * x)) = -((i * j) * (x * x)) := by grind
    have := Int.mul_nonneg (Int.mul_nonneg hi hj) (sq_ge0 x)
    rw [e]; omega
  · rw [opp_iff]; unfold stp; simp only
    have e : (a.2 - (a.2 + i * y)) * (a.2 + (i + j) * y - (a.2 + i * y)) = -((i * j) * (y * y)) := by grind
    have := Int.mul_nonneg (Int.mul_nonneg hi hj) (sq_ge0 y)
    rw [e]; omega
end Go.Proofs.Ytocpdphchignpaa
