/- Long division bit by bit, in plain Lean: no function of the program is named here. -/
import Derived.Test.YtamhngjhgdmgbaaBase
import Derived.Laws.Bits64b
namespace Go.Proofs.Ytamhngjhgdmgbaa
open Go.RowKit

theorem bit_val (x : Int) (h : Word x) : bits .and .u64 x 1 = x % 2 := by
  obtain ⟨n, rfl⟩ := Int.eq_ofNat_of_zero_le h.1
  have e := bits_and_u64_nat n 1 (by unfold Word at h; omega) (by omega)
  rw [Nat.and_one_is_mod] at e
  simpa using e
theorem or1 (R b : Int) (hb : 0 ≤ b ∧ b ≤ 1) : bits .or .u64 (IntKind.u64.wrap (R * 2)) b = (R * 2 + b) % 18446744073709551616 := by
  rw [IntKind.wrap_u64]
  obtain ⟨y, hy⟩ := Int.eq_ofNat_of_zero_le (show 0 ≤ R * 2 % 18446744073709551616 / 2 by omega)
  obtain ⟨c, rfl⟩ := Int.eq_ofNat_of_zero_le hb.1
  have hy2 : R * 2 % 18446744073709551616 = ((2 * y : Nat) : Int) := by omega
  rw [hy2]
  have e := bits_or_u64_nat (2 * y) c (by omega) (by omega)
  have e2 := Nat.two_pow_add_eq_or_of_lt (i := 1) (b := c) (by omega) y
  rw [show (2 : Nat) ^ 1 = 2 from rfl] at e2
  rw [← e2] at e
  rw [e]
  omega

theorem pow_pos2 (k : Nat) : (0 : Int) < 2 ^ k := Int.pow_pos (by decide)
theorem pow_split (a b : Nat) : (2 : Int) ^ (a + b) = 2 ^ a * 2 ^ b := Int.pow_add 2 a b

/-- One more bit is laid into a word that has none so low. -/
theorem lay_bit (a u : Int) (m : Nat) (hm : m < 64) (ha : Word a) (hu : a = u * 2 ^ (m + 1)) : bits .or .u64 a (IntKind.u64.wrap (2 ^ m)) = a + 2 ^ m ∧ Word (a + 2 ^ m) := by
  have hp := pow_pos2 m
  have e1 : (2 : Int) ^ (m + 1) = 2 * 2 ^ m := by rw [pow_split]; omega
  have e2 : (18446744073709551616 : Int) = 2 ^ (63 - m) * 2 ^ (m + 1) := by
    rw [← pow_split, show 63 - m + (m + 1) = 64 from by omega]; rfl
  have hp' := pow_pos2 (m + 1)
  have hu0 : 0 ≤ u := by
    rcases Int.lt_or_le u 0 with h | h
    · have := Int.mul_neg_of_neg_of_pos h hp'
      have := ha.1; omega
    · exact h
  have hul : u < 2 ^ (63 - m) := by
    have h := ha.2
    rw [hu, e2] at h
    exact Int.lt_of_mul_lt_mul_right h (Int.le_of_lt hp')
  have htop : a + 2 ^ (m + 1) ≤ 18446744073709551616 := by
    rw [hu, e2]
    have := Int.mul_le_mul_of_nonneg_right (show u + 1 ≤ 2 ^ (63 - m) by omega) (Int.le_of_lt hp')
    rw [Int.add_mul, Int.one_mul] at this
    exact this
  have hw : Word (a + 2 ^ m) := by have := ha.1; unfold Word; omega
  refine ⟨?_, hw⟩
  rw [IntKind.wrap_u64, Int.emod_eq_of_lt (Int.le_of_lt hp) (by have := hw.2; have := ha.1; omega)]
  obtain ⟨v, rfl⟩ := Int.eq_ofNat_of_zero_le hu0
  have hn : ((2 ^ m : Nat) : Int) = 2 ^ m := by simp
  have hn1 : ((2 ^ (m + 1) * v : Nat) : Int) = a := by rw [hu, Int.natCast_mul, Int.mul_comm]; simp
  have e := bits_or_u64_nat (2 ^ (m + 1) * v) (2 ^ m) (by have := ha.2; omega) (by omega)
  rw [← Nat.two_pow_add_eq_or_of_lt (by rw [Nat.pow_succ]; have := Nat.two_pow_pos m; omega) v, hn1, Int.natCast_add, hn1, hn] at e
  exact e

/-- How it stands with k bits to go: what is left, and how often so far. -/
def DivAt (N d : Int) (k : Nat) (R qH qL : Int) : Prop := R = N / 2 ^ k % d ∧ num qH qL = N / 2 ^ k / d * 2 ^ k

theorem div_shift (N : Int) (j : Nat) : N / 2 ^ j = N / 2 ^ (j + 1) * 2 + N / 2 ^ j % 2 := by
  have e : N / 2 ^ (j + 1) = N / 2 ^ j / 2 := by
    rw [pow_split, Int.pow_one, Int.ediv_ediv_of_nonneg (Int.le_of_lt (pow_pos2 j))]
  rw [e]; omega
theorem two_div {M d R u b : Int} (hd : 0 < d) (hu : u = M / d) (hR : R = M % d) (h0 : 0 ≤ R * 2 + b) : (R * 2 + b < d → (M * 2 + b) / d = u * 2 ∧ (M * 2 + b) % d = R * 2 + b) ∧ (d ≤ R * 2 + b → R * 2 + b - d < d → (M * 2 + b) / d = u * 2 + 1 ∧ (M * 2 + b) % d = R * 2 + b - d) := by
  have hM : M = d * u + R := by rw [hu, hR]; exact (Int.mul_ediv_add_emod M d).symm
  refine ⟨fun h => ?_, fun h h' => ?_⟩
  · have e : M * 2 + b = R * 2 + b + d * (u * 2) := by rw [hM, Int.add_mul, ← Int.mul_assoc]; omega
    rw [e, Int.add_mul_ediv_left _ _ (by omega), Int.add_mul_emod_self_left, Int.ediv_eq_zero_of_lt h0 h, Int.emod_eq_of_lt h0 h]
    omega
  · have e : M * 2 + b = R * 2 + b - d + d * (u * 2 + 1) := by rw [hM, Int.add_mul, Int.mul_add, ← Int.mul_assoc]; omega
    rw [e, Int.add_mul_ediv_left _ _ (by omega), Int.add_mul_emod_self_left, Int.ediv_eq_zero_of_lt (by omega) h', Int.emod_eq_of_lt (by omega) h']
    omega
theorem DivAt.low {N d R qH qL b : Int} {j : Nat} (hd : 0 < d) (h : DivAt N d (j + 1) R qH qL) (hb : b = N / 2 ^ j % 2) (hx : R * 2 + b < d) : DivAt N d j (R * 2 + b) qH qL := by
  have hR := Int.emod_nonneg (N / 2 ^ (j + 1)) (show d ≠ 0 by omega)
  rw [← h.1] at hR
  obtain ⟨e1, e2⟩ := (two_div (b := b) hd rfl h.1 (by omega)).1 hx
  have hs := div_shift N j
  rw [← hb] at hs
  unfold DivAt
  rw [hs, e1, e2, h.2, pow_split, Int.pow_one, Int.mul_assoc, Int.mul_comm 2]
  exact ⟨rfl, rfl⟩
theorem DivAt.high {N d R qH qL qH' qL' b : Int} {j : Nat} (hd : 0 < d) (h : DivAt N d (j + 1) R qH qL) (hb : b = N / 2 ^ j % 2) (hx : d ≤ R * 2 + b) (hq : num qH' qL' = num qH qL + 2 ^ j) : DivAt N d j (R * 2 + b - d) qH' qL' := by
  have hR := Int.emod_nonneg (N / 2 ^ (j + 1)) (show d ≠ 0 by omega)
  have hR' := Int.emod_lt_of_pos (N / 2 ^ (j + 1)) hd
  rw [← h.1] at hR hR'
  obtain ⟨e1, e2⟩ := (two_div (b := b) hd rfl h.1 (by omega)).2 hx (by omega)
  have hs := div_shift N j
  rw [← hb] at hs
  unfold DivAt
  rw [hs, e1, e2, hq, h.2, pow_split, Int.pow_one, Int.add_mul, Int.mul_assoc, Int.mul_comm 2, Int.one_mul]
  exact ⟨rfl, rfl⟩
theorem DivAt.bd {N d R qH qL : Int} {k : Nat} (hd : 0 < d) (h : DivAt N d k R qH qL) : 0 ≤ R ∧ R < d := by
  rw [h.1]; exact ⟨Int.emod_nonneg _ (by omega), Int.emod_lt_of_pos _ hd⟩

theorem bit_hi {ah al : Int} (h2 : Word al) {j : Nat} (hj : 64 ≤ j) : num ah al / 2 ^ j % 2 = ah / 2 ^ (j - 64) % 2 := by
  have e : (2 : Int) ^ j = 18446744073709551616 * 2 ^ (j - 64) := by
    have := pow_split 64 (j - 64)
    rw [show 64 + (j - 64) = j from by omega] at this
    exact this
  rw [e, ← Int.ediv_ediv_of_nonneg (by omega), show num ah al / 18446744073709551616 = ah from by unfold num; unfold Word at h2; omega]
theorem bit_lo {ah al : Int} {j : Nat} (hj : j < 64) : num ah al / 2 ^ j % 2 = al / 2 ^ j % 2 := by
  have e : (18446744073709551616 : Int) = 2 ^ j * (2 ^ (63 - j) * 2) := by
    have h1 := pow_split j (63 - j + 1)
    rw [show j + (63 - j + 1) = 64 from by omega, pow_split (63 - j) 1] at h1
    exact h1
  have e2 : num ah al = al + 2 ^ j * (2 ^ (63 - j) * ah * 2) := by
    unfold num
    rw [e, Int.mul_comm ah, Int.add_comm, Int.mul_assoc, Int.mul_assoc, Int.mul_right_comm, Int.mul_assoc (2 ^ (63 - j)) 2 ah]
  rw [e2, Int.add_mul_ediv_left _ _ (by have := pow_pos2 j; omega)]
  omega
/-- Where the next bit of the answer goes: the high word .. -/
theorem lay_hi {N d R qH qL : Int} {j : Nat} (h : DivAt N d (j + 1) R qH qL) (hH : Word qH) (hL : Word qL) (hj : 64 ≤ j) (hj' : j < 128) :
    bits .or .u64 qH (IntKind.u64.wrap (2 ^ (j - 64))) = qH + 2 ^ (j - 64) ∧ Word (qH + 2 ^ (j - 64)) ∧ num (qH + 2 ^ (j - 64)) qL = num qH qL + 2 ^ j := by
  have e : (2 : Int) ^ (j + 1) = 2 ^ (j - 64 + 1) * 18446744073709551616 := by
    have := pow_split (j - 64 + 1) 64
    rw [show j - 64 + 1 + 64 = j + 1 from by omega] at this
    exact this
  have e' : (2 : Int) ^ j = 2 ^ (j - 64) * 18446744073709551616 := by
    have := pow_split (j - 64) 64
    rw [show j - 64 + 64 = j from by omega] at this
    exact this
  have hq := h.2
  generalize N / 2 ^ (j + 1) / d = u at hq
  rw [e, ← Int.mul_assoc] at hq
  have hqH : qH = u * 2 ^ (j - 64 + 1) := by unfold num at hq; unfold Word at hL; omega
  obtain ⟨a, b⟩ := lay_bit qH u (j - 64) (by omega) hH hqH
  refine ⟨a, b, ?_⟩
  unfold num; rw [e', Int.add_mul]; omega
/-- .. or the low one. -/
theorem lay_lo {N d R qH qL : Int} {j : Nat} (h : DivAt N d (j + 1) R qH qL) (hL : Word qL) (hj : j < 64) :
    bits .or .u64 qL (IntKind.u64.wrap (2 ^ j)) = qL + 2 ^ j ∧ Word (qL + 2 ^ j) ∧ num qH (qL + 2 ^ j) = num qH qL + 2 ^ j := by
  have e : (18446744073709551616 : Int) = 2 ^ (63 - j) * 2 ^ (j + 1) := by
    rw [← pow_split, show 63 - j + (j + 1) = 64 from by omega]; rfl
  have hq := h.2
  generalize N / 2 ^ (j + 1) / d = u at hq
  have hqL : qL = (u - qH * 2 ^ (63 - j)) * 2 ^ (j + 1) := by
    rw [Int.sub_mul, Int.mul_assoc, ← e]; unfold num at hq; omega
  obtain ⟨a, b⟩ := lay_bit qL _ j hj hL hqL
  refine ⟨a, b, ?_⟩
  unfold num; omega
theorem DivAt.start {N d : Int} (hN : Big N) : DivAt N d 128 0 0 0 := by
  have e : N / 2 ^ 128 = 0 := Int.ediv_eq_zero_of_lt hN.1 hN.2
  unfold DivAt
  rw [e]
  simp [num]
theorem DivAt.done {N d R qH qL : Int} (hH : Word qH) (hL : Word qL) (h : DivAt N d 0 R qH qL) : R = N % d ∧ qH = hiOf (N / d) ∧ qL = loOf (N / d) := by
  obtain ⟨h1, h2⟩ := h
  simp only [Int.pow_zero, Int.ediv_one, Int.mul_one] at h1 h2
  rw [h1, ← h2, hiOf_num hH hL, loOf_num hL]
  exact ⟨rfl, rfl, rfl⟩
end Go.Proofs.Ytamhngjhgdmgbaa
