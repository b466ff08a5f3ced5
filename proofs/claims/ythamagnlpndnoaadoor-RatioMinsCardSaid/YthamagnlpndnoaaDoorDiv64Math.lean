/- Plain arithmetic: long division by two halves, each guessed from above. No function of the program is named here. -/
import Derived.Test.YthamagnlpndnoaaDoorBase
import Derived.Lib.ItoaNum
namespace Go.Proofs.YthamagnlpndnoaaDoor

/-- How far a word is from one that fills 64 bits. -/
def lzV (y : Int) : Int := 64 - (Lib.bitLen y.toNat : Int)
def pwS (y : Int) : Int := 2 ^ (lzV y).toNat
theorem lz_facts {y : Int} (h : Word y) (h0 : 0 < y) : 0 ≤ lzV y ∧ lzV y ≤ 63 ∧ 9223372036854775808 ≤ y * pwS y ∧ y * pwS y < 18446744073709551616 := by
  unfold Word at h
  obtain ⟨a, b, c⟩ := Lib.bitLenAux_bounds 64 y.toNat (by omega) (by omega)
  have hl := Lib.bitLen_le y.toNat 64 (Nat.le_refl _) (by omega)
  have e : Lib.bitLen y.toNat = Lib.bitLenAux 64 y.toNat := rfl
  unfold pwS lzV
  rw [e] at hl ⊢
  generalize Lib.bitLenAux 64 y.toNat = L at *
  have es : (64 - (L : Int)).toNat = 64 - L := by omega
  rw [es]
  have hy : y = (y.toNat : Int) := by omega
  generalize y.toNat = n at *
  subst hy
  have p1 : 2 ^ (L - 1) * 2 ^ (64 - L) = 2 ^ 63 := by rw [← Nat.pow_add]; congr 1; omega
  have p2 : 2 ^ L * 2 ^ (64 - L) = 2 ^ 64 := by rw [← Nat.pow_add]; congr 1; omega
  have m1 := Nat.mul_le_mul_right (2 ^ (64 - L)) b
  have m2 := Nat.mul_lt_mul_of_pos_right c (Nat.pow_pos (n := 64 - L) (show 0 < 2 by omega))
  rw [p1] at m1
  rw [p2] at m2
  have e3 : (n : Int) * 2 ^ (64 - L) = ((n * 2 ^ (64 - L) : Nat) : Int) := by push_cast; rfl
  rw [e3]
  omega
theorem pwS_facts {y : Int} (h1 : 0 ≤ lzV y) (h2 : lzV y ≤ 63) : 0 < pwS y ∧ pwS y * 2 ^ (64 - (lzV y)).toNat = 18446744073709551616 ∧ (2 : Int) ^ (64 - (lzV y)).toNat = 2 ^ (64 - (lzV y).toNat) := by
  unfold pwS
  generalize lzV y = s at *
  obtain ⟨n, rfl⟩ := Int.eq_ofNat_of_zero_le h1
  have e1 : ((n : Int)).toNat = n := by omega
  have e2 : (64 - (n : Int)).toNat = 64 - n := by omega
  rw [e1, e2]
  refine ⟨Int.pow_pos (by omega), ?_, rfl⟩
  rw [← Int.pow_add]
  have : n + (64 - n) = 64 := by omega
  rw [this]; rfl

/-- A guess from above. -/
structure Guess (u v Y q r : Int) : Prop where
  sum : q * (Y / 4294967296) + r = u
  up : (u * 4294967296 + v) / Y ≤ q
  top : q ≤ 4294967297
  r0 : 0 ≤ r
structure Norm (u v Y : Int) : Prop where
  y1 : 9223372036854775808 ≤ Y
  y2 : Y < 18446744073709551616
  u0 : 0 ≤ u
  u1 : u < Y
  v0 : 0 ≤ v
  v1 : v < 4294967296

theorem Norm.quo {u v Y : Int} (h : Norm u v Y) : 0 ≤ (u * 4294967296 + v) / Y ∧ (u * 4294967296 + v) / Y < 4294967296 ∧ 0 ≤ (u * 4294967296 + v) % Y ∧ (u * 4294967296 + v) % Y < Y ∧ Y * ((u * 4294967296 + v) / Y) + (u * 4294967296 + v) % Y = u * 4294967296 + v := by
  obtain ⟨a, b, c, d, e, f⟩ := h
  have hY : (0 : Int) < Y := by omega
  refine ⟨Int.ediv_nonneg (by omega) (by omega), Int.ediv_lt_of_lt_mul hY (by omega), Int.emod_nonneg _ (by omega), Int.emod_lt_of_pos _ hY, Int.mul_ediv_add_emod _ _⟩
theorem guess_start {u v Y : Int} (h : Norm u v Y) : Guess u v Y (u / (Y / 4294967296)) (u % (Y / 4294967296)) ∧ u % (Y / 4294967296) < 4294967296 := by
  have hq := h.quo
  obtain ⟨a, b, c, d, e, f⟩ := h
  have hd : 0 < Y / 4294967296 := by omega
  have m1 := Int.mul_ediv_add_emod u (Y / 4294967296)
  have m2 := Int.emod_nonneg u (show Y / 4294967296 ≠ 0 by omega)
  have m3 := Int.emod_lt_of_pos u hd
  generalize hQ : u / (Y / 4294967296) = q at *
  generalize hR : u % (Y / 4294967296) = r at *
  refine ⟨⟨by rw [Int.mul_comm]; exact m1, ?_, ?_, m2⟩, by omega⟩
  · -- else the guess is too small
    rcases Int.lt_or_le q ((u * 4294967296 + v) / Y) with h' | h'
    · have hle : (q + 1) ≤ (u * 4294967296 + v) / Y := by omega
      have k1 : (q + 1) * Y ≤ u * 4294967296 + v := by
        have := Int.mul_le_mul_of_nonneg_right hle (show 0 ≤ Y by omega)
        rw [Int.mul_comm ((u * 4294967296 + v) / Y)] at this
        omega
      have k2 : (q + 1) * (Y / 4294967296) ≤ u := by
        have hge : (0 : Int) ≤ q := by rw [← hQ]; exact Int.ediv_nonneg c (by omega)
        have := Int.mul_nonneg (show 0 ≤ q + 1 by omega) (show 0 ≤ Y % 4294967296 by omega)
        have e1 : (q + 1) * Y = (q + 1) * (Y / 4294967296) * 4294967296 + (q + 1) * (Y % 4294967296) := by
          have : Y = Y / 4294967296 * 4294967296 + Y % 4294967296 := by omega
          calc (q + 1) * Y = (q + 1) * (Y / 4294967296 * 4294967296 + Y % 4294967296) := by rw [← this]
            _ = _ := by rw [Int.mul_add, Int.mul_assoc]
        omega
      rw [Int.add_mul, Int.one_mul, Int.mul_comm q] at k2
      omega
    · exact h'
  · -- at most two too many
    rcases Int.lt_or_le 4294967297 q with h' | h'
    · have k := Int.mul_le_mul_of_nonneg_right (show (4294967298 : Int) ≤ q by omega) (show 0 ≤ Y / 4294967296 by omega)
      rw [Int.mul_comm q] at k
      omega
    · exact h'
theorem guess_small {u v Y q r : Int} (h : Norm u v Y) (g : Guess u v Y q r) (h2 : q * (Y % 4294967296) ≤ 4294967296 * r + v) : q = (u * 4294967296 + v) / Y := by
  have hq := h.quo
  obtain ⟨a, b, c, d, e, f⟩ := h
  obtain ⟨s, t, _, _⟩ := g
  have e1 : q * Y = q * (Y / 4294967296) * 4294967296 + q * (Y % 4294967296) := by
    have : Y = Y / 4294967296 * 4294967296 + Y % 4294967296 := by omega
    calc q * Y = q * (Y / 4294967296 * 4294967296 + Y % 4294967296) := by rw [← this]
      _ = _ := by rw [Int.mul_add, Int.mul_assoc]
  have h3 : q * Y ≤ u * 4294967296 + v := by omega
  have := (Int.le_ediv_iff_mul_le (show 0 < Y by omega)).2 h3
  omega
theorem guess_big {u v Y q r : Int} (h : Norm u v Y) (g : Guess u v Y q r) (hc : 4294967296 ≤ q ∨ 4294967296 * r + v < q * (Y % 4294967296)) : Guess u v Y (q - 1) (r + Y / 4294967296) := by
  have hq := h.quo
  obtain ⟨a, b, c, d, e, f⟩ := h
  obtain ⟨s, t, k, r0⟩ := g
  have hlt : (u * 4294967296 + v) / Y < q := by
    rcases hc with hc | hc
    · omega
    · have e1 : q * Y = q * (Y / 4294967296) * 4294967296 + q * (Y % 4294967296) := by
        have : Y = Y / 4294967296 * 4294967296 + Y % 4294967296 := by omega
        calc q * Y = q * (Y / 4294967296 * 4294967296 + Y % 4294967296) := by rw [← this]
          _ = _ := by rw [Int.mul_add, Int.mul_assoc]
      exact Int.ediv_lt_of_lt_mul (by omega) (by omega)
  exact ⟨by rw [Int.sub_mul]; omega, by omega, by omega, by omega⟩
theorem guess_end {u v Y q r : Int} (h : Norm u v Y) (g : Guess u v Y q r) (hr : 4294967296 ≤ r) (hq4 : q ≤ 4294967296) : q = (u * 4294967296 + v) / Y := by
  have hq := h.quo
  have h0 := h.y1
  have hv := h.v0
  have q0 : 0 ≤ q := by have := g.up; omega
  have m : q * (Y % 4294967296) ≤ 4294967296 * r + v := by
    have m1 := Int.mul_le_mul hq4 (show Y % 4294967296 ≤ 4294967295 by omega) (show 0 ≤ Y % 4294967296 by omega) (by omega)
    omega
  exact guess_small h g m

/-- What was shifted up, and what it comes to. -/
theorem div_parts {h l y p q : Int} (hl : Word l) (hp : 0 < p) (hpq : p * q = 18446744073709551616) (hlt : h < y) (hh : 0 ≤ h) (hY1 : 9223372036854775808 ≤ y * p) (hY2 : y * p < 18446744073709551616) :
    Norm (h * p + l / q) ((l % q * p) / 4294967296) (y * p) ∧ 0 ≤ l % q * p ∧ l % q * p < 18446744073709551616 ∧ 0 ≤ l / q ∧ l / q < p ∧ (l * p) % 18446744073709551616 = l % q * p ∧ 0 ≤ h * p ∧ h * p < 18446744073709551616 ∧
      (h * 18446744073709551616 + l) * p = (h * p + l / q) * 18446744073709551616 + l % q * p := by
  have hq : 0 < q := by
    rcases Int.lt_or_le 0 q with h' | h'
    · exact h'
    · have := Int.mul_nonneg (Int.le_of_lt hp) (show 0 ≤ -q by omega)
      rw [Int.mul_neg] at this; omega
  unfold Word at hl
  have m1 := Int.mul_ediv_add_emod l q
  have m2 := Int.emod_nonneg l (show q ≠ 0 by omega)
  have m3 := Int.emod_lt_of_pos l hq
  have m4 := Int.ediv_nonneg hl.1 (Int.le_of_lt hq)
  have m5 : l / q < p := Int.ediv_lt_of_lt_mul hq (by omega)
  generalize l / q = a at *
  generalize l % q = b at *
  have n1 : b * p < 18446744073709551616 := by
    have := Int.mul_lt_mul_of_pos_right m3 hp
    rw [Int.mul_comm q] at this; omega
  have n0 := Int.mul_nonneg m2 (Int.le_of_lt hp)
  have n2 : h * p + p ≤ y * p := by
    have := Int.mul_le_mul_of_nonneg_right (show h + 1 ≤ y by omega) (Int.le_of_lt hp)
    rw [Int.add_mul, Int.one_mul] at this; exact this
  have n3 := Int.mul_nonneg hh (Int.le_of_lt hp)
  have el : l * p = a * 18446744073709551616 + b * p := by
    rw [← m1, Int.add_mul, ← hpq]
    have : q * a * p = a * (p * q) := by grind
    omega
  refine ⟨⟨hY1, hY2, by omega, by omega, by omega, by omega⟩, n0, n1, m4, m5, by omega, n3, by omega, ?_⟩
  rw [Int.add_mul, Int.add_mul, el]
  have : h * 18446744073709551616 * p = h * p * 18446744073709551616 := by grind
  omega
theorem div_join {N y p Y U w u0 q1 r1 q0 r0 : Int} (hy : 0 < y) (hp : 0 < p) (hY : y * p = Y) (hN : N * p = U * 18446744073709551616 + (w * 4294967296 + u0)) (h1 : Y * q1 + r1 = U * 4294967296 + w) (h0 : Y * q0 + r0 = r1 * 4294967296 + u0) (hr0 : 0 ≤ r0) (hr1 : r0 < Y) :
    q1 * 4294967296 + q0 = N / y ∧ r0 / p = N % y := by
  have e : Y * (q1 * 4294967296 + q0) + r0 = N * p := by
    rw [Int.mul_add]
    have : Y * (q1 * 4294967296) = Y * q1 * 4294967296 := by rw [Int.mul_assoc]
    omega
  generalize q1 * 4294967296 + q0 = Q at *
  -- the rest is p times a rest
  have e2 : r0 = p * (N - y * Q) := by rw [Int.mul_sub, ← Int.mul_assoc, Int.mul_comm p y, hY, Int.mul_comm p N]; omega
  have b0 : 0 ≤ N - y * Q := by
    rcases Int.lt_or_le (N - y * Q) 0 with h | h
    · have := Int.mul_pos hp (show 0 < -(N - y * Q) by omega)
      rw [Int.mul_neg] at this; omega
    · exact h
  have b1 : N - y * Q < y := by
    rcases Int.lt_or_le (N - y * Q) y with h | h
    · exact h
    · have := Int.mul_le_mul_of_nonneg_left h (Int.le_of_lt hp)
      rw [Int.mul_comm p y] at this; omega
  have eQ : N / y = Q := by
    have : N = (N - y * Q) + y * Q := by omega
    rw [this, Int.add_mul_ediv_left _ _ (by omega), Int.ediv_eq_zero_of_lt b0 b1, Int.zero_add]
  constructor
  · exact eQ.symm
  · rw [e2, Int.mul_ediv_cancel_left _ (by omega), Int.emod_def, eQ]
end Go.Proofs.YthamagnlpndnoaaDoor
