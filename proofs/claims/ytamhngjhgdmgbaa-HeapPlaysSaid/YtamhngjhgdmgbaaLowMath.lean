/- Fractions in lowest terms, as numbers: two that stand for one number are alike; they are compared as their numbers. No function of the program is named here. -/
import Derived.Test.YtamhngjhgdmgbaaLowest
namespace Go.Proofs.Ytamhngjhgdmgbaa
open Go.RowKit

theorem lowG_nat (n m : Nat) (hm : 0 < m) : lowG (n : Int) (m : Int) = ((Nat.gcd n m : Nat) : Int) := by
  unfold lowG
  rw [gcdV_step _ _ (by omega) (by omega)]
  unfold gcdV
  simp
/-- The parts of a fraction in lowest terms. -/
theorem low_parts {N D : Int} (hN : 0 ≤ N) (hD : 0 < D) : ∃ a b g : Nat, N = g * a ∧ D = g * b ∧ lowG N D = g ∧ 0 < g ∧ 0 < b ∧ Nat.Coprime a b ∧ N / lowG N D = a ∧ D / lowG N D = b := by
  obtain ⟨n, rfl⟩ := Int.eq_ofNat_of_zero_le hN
  obtain ⟨m, rfl⟩ := Int.eq_ofNat_of_zero_le (Int.le_of_lt hD)
  have hm : 0 < m := by omega
  have hg : 0 < Nat.gcd n m := Nat.gcd_pos_of_pos_right n hm
  have hl := lowG_nat n m hm
  obtain ⟨a, ha⟩ := Nat.gcd_dvd_left n m
  obtain ⟨b, hb⟩ := Nat.gcd_dvd_right n m
  have hc := Nat.coprime_div_gcd_div_gcd hg
  rw [Nat.div_eq_of_eq_mul_right hg ha, Nat.div_eq_of_eq_mul_right hg hb] at hc
  refine ⟨a, b, Nat.gcd n m, ?_, ?_, hl, hg, ?_, hc, ?_, ?_⟩
  · rw [← Int.natCast_mul, ← ha]
  · rw [← Int.natCast_mul, ← hb]
  · rcases Nat.eq_zero_or_pos b with h | h
    · rw [h, Nat.mul_zero] at hb; omega
    · exact h
  · rw [hl, ← Int.natCast_ediv, Nat.div_eq_of_eq_mul_right hg ha]
  · rw [hl, ← Int.natCast_ediv, Nat.div_eq_of_eq_mul_right hg hb]
theorem low_eq {N D N' D' : Int} (hN : 0 ≤ N) (hD : 0 < D) (hN' : 0 ≤ N') (hD' : 0 < D') (h : N * D' = N' * D) : N / lowG N D = N' / lowG N' D' ∧ D / lowG N D = D' / lowG N' D' := by
  obtain ⟨a, b, g, e1, e2, _, g0, b0, hc, e3, e4⟩ := low_parts hN hD
  obtain ⟨a', b', g', f1, f2, _, g0', b0', hc', f3, f4⟩ := low_parts hN' hD'
  rw [e3, e4, f3, f4]
  rw [e1, e2, f1, f2] at h
  have hn : g * a * (g' * b') = g' * a' * (g * b) := by
    have : ((g * a * (g' * b') : Nat) : Int) = ((g' * a' * (g * b) : Nat) : Int) := by push_cast; exact h
    omega
  have hk : a * b' = a' * b := by
    have : (g * g') * (a * b') = (g * g') * (a' * b) := by
      calc (g * g') * (a * b') = g * a * (g' * b') := by grind
        _ = g' * a' * (g * b) := hn
        _ = (g * g') * (a' * b) := by grind
    exact Nat.eq_of_mul_eq_mul_left (Nat.mul_pos g0 g0') this
  have d1 : a ∣ a' := hc.dvd_of_dvd_mul_right (by rw [← hk]; exact Nat.dvd_mul_right a b')
  have d2 : a' ∣ a := hc'.dvd_of_dvd_mul_right (by rw [hk]; exact Nat.dvd_mul_right a' b)
  have ea : a = a' := Nat.dvd_antisymm d1 d2
  have d3 : b ∣ b' := hc.symm.dvd_of_dvd_mul_left (by rw [hk]; exact Nat.dvd_mul_left b a')
  have d4 : b' ∣ b := hc'.symm.dvd_of_dvd_mul_left (by rw [← hk]; exact Nat.dvd_mul_left b' a)
  have eb : b = b' := Nat.dvd_antisymm d3 d4
  rw [ea, eb]
  exact ⟨rfl, rfl⟩
theorem low_inj {N D N' D' : Int} (hN : 0 ≤ N) (hD : 0 < D) (hN' : 0 ≤ N') (hD' : 0 < D') (h1 : N / lowG N D = N' / lowG N' D') (h2 : D / lowG N D = D' / lowG N' D') : N * D' = N' * D := by
  obtain ⟨a, b, g, e1, e2, _, g0, b0, hc, e3, e4⟩ := low_parts hN hD
  obtain ⟨a', b', g', f1, f2, _, g0', b0', hc', f3, f4⟩ := low_parts hN' hD'
  rw [e3, f3] at h1
  rw [e4, f4] at h2
  rw [e1, e2, f1, f2, h1, h2]
  grind
/-- Compared by their parts in lowest terms, or whole. -/
theorem low_cmp {N D N' D' : Int} (hN : 0 ≤ N) (hD : 0 < D) (hN' : 0 ≤ N') (hD' : 0 < D') : cmpV (N / lowG N D * (D' / lowG N' D')) (N' / lowG N' D' * (D / lowG N D)) = cmpV (N * D') (N' * D) := by
  obtain ⟨a, b, g, e1, e2, _, g0, b0, hc, e3, e4⟩ := low_parts hN hD
  obtain ⟨a', b', g', f1, f2, _, g0', b0', hc', f3, f4⟩ := low_parts hN' hD'
  rw [e3, e4, f3, f4, e1, e2, f1, f2]
  have k1 : (g : Int) * a * (g' * b') = (g * g') * (a * b') := by grind
  have k2 : (g' : Int) * a' * (g * b) = (g * g') * (a' * b) := by grind
  rw [k1, k2]
  have hp : (0 : Int) < (g : Int) * g' := Int.mul_pos (by omega) (by omega)
  generalize (g : Int) * g' = G at *
  generalize (a : Int) * b' = x
  generalize (a' : Int) * b = y
  unfold cmpV
  rcases Int.lt_trichotomy x y with h | h | h
  · have := Int.mul_lt_mul_of_pos_left h hp
    rw [if_pos h, if_pos this]
  · subst h; simp
  · have := Int.mul_lt_mul_of_pos_left h hp
    rw [if_neg (by omega), if_pos h, if_neg (by omega), if_pos this]
theorem low_le {N D : Int} (hN : 0 ≤ N) (hD : 0 < D) : 0 ≤ N / lowG N D ∧ N / lowG N D ≤ N ∧ 0 < D / lowG N D ∧ D / lowG N D ≤ D := by
  obtain ⟨a, b, g, e1, e2, _, g0, b0, hc, e3, e4⟩ := low_parts hN hD
  rw [e3, e4]
  have m1 : (a : Int) ≤ g * a := by
    have := Int.mul_le_mul_of_nonneg_right (show (1 : Int) ≤ g by omega) (show (0 : Int) ≤ a by omega)
    omega
  have m2 : (b : Int) ≤ g * b := by
    have := Int.mul_le_mul_of_nonneg_right (show (1 : Int) ≤ g by omega) (show (0 : Int) ≤ b by omega)
    omega
  omega
theorem low_zero {N D : Int} (hN : 0 ≤ N) (hD : 0 < D) : N / lowG N D = 0 ∧ D / lowG N D = 1 ↔ N = 0 := by
  constructor
  · rintro ⟨h, _⟩
    obtain ⟨a, b, g, e1, e2, _, g0, b0, hc, e3, e4⟩ := low_parts hN hD
    rw [e3] at h
    rw [e1, h, Int.mul_zero]
  · rintro rfl
    have := low_eq (N := 0) (D := D) (N' := 0) (D' := 1) (by omega) hD (by omega) (by omega) (by omega)
    rw [lowG_one] at this
    rw [this.1, this.2]
    exact ⟨rfl, rfl⟩
end Go.Proofs.Ytamhngjhgdmgbaa
