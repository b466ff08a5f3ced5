/- Plain facts on decimal numerals. No function of the program is named here. -/
import Derived.Test.YthamagnlpndnoaaDoorBase
import Derived.Lib.ItoaNum
import Derived.Lib.RepeatB
namespace Go.Proofs.YthamagnlpndnoaaDoor
open Go.Lib

theorem dec_small {u : Nat} (h : u < 10) : decDigits u = [UInt8.ofNat (48 + u)] := by rw [decDigits, dif_pos h]
theorem dec_big {u : Nat} (h : 10 ≤ u) : decDigits u = decDigits (u / 10) ++ [UInt8.ofNat (48 + u % 10)] := by rw [decDigits, dif_neg (by omega)]
theorem dec_len : ∀ (k r : Nat), 1 ≤ k → r < 10 ^ k → (decDigits r).length ≤ k
  | 0, _, h, _ => by omega
  | k + 1, r, _, hr => by
    by_cases h : r < 10
    · rw [dec_small h]; simp
    · rw [dec_big (by omega), List.length_append]
      have h1 : 1 ≤ k := by
        rcases Nat.eq_zero_or_pos k with rfl | h'
        · simp at hr; omega
        · exact h'
      have := dec_len k (r / 10) h1 (by rw [Nat.pow_succ] at hr; omega)
      simp; omega
theorem dec_pos (u : Nat) : 1 ≤ (decDigits u).length := by
  by_cases h : u < 10
  · rw [dec_small h]; simp
  · rw [dec_big (by omega)]; simp
theorem dec_split : ∀ (k q r : Nat), 1 ≤ k → 1 ≤ q → r < 10 ^ k → decDigits (q * 10 ^ k + r) = decDigits q ++ (List.replicate (k - (decDigits r).length) 48 ++ decDigits r)
  | 0, _, _, h, _, _ => by omega
  | k + 1, q, r, _, hq, hr => by
    have hp : 1 ≤ 10 ^ k := Nat.one_le_pow _ _ (by omega)
    have e : q * 10 ^ (k + 1) = 10 * (q * 10 ^ k) := by rw [Nat.pow_succ, ← Nat.mul_assoc, Nat.mul_comm]
    have hqp : 1 ≤ q * 10 ^ k := Nat.le_trans hp (Nat.le_mul_of_pos_left _ hq)
    rw [dec_big (by omega), show (q * 10 ^ (k + 1) + r) / 10 = q * 10 ^ k + r / 10 from by omega, show (q * 10 ^ (k + 1) + r) % 10 = r % 10 from by omega]
    rcases Nat.eq_zero_or_pos k with rfl | h1
    · simp at hr
      rw [dec_small (u := r) (by omega)]
      simp [show r / 10 = 0 from by omega, show r % 10 = r from by omega]
    · have hr' : r / 10 < 10 ^ k := by rw [Nat.pow_succ] at hr; omega
      rw [dec_split k q (r / 10) h1 hq hr']
      by_cases h : r < 10
      · rw [show r / 10 = 0 from by omega, show r % 10 = r from by omega, dec_small (u := 0) (by omega), dec_small h]
        simp only [List.length_cons, List.length_nil, List.append_assoc]
        congr 1
        rw [show k + 1 - (0 + 1) = (k - (0 + 1)) + 1 from by omega, List.replicate_succ', List.append_assoc]
        rfl
      · rw [dec_big (u := r) (by omega)]
        have hl := dec_len k (r / 10) h1 hr'
        simp only [List.length_append, List.length_cons, List.length_nil, List.append_assoc]
        rw [show k + 1 - ((decDigits (r / 10)).length + (0 + 1)) = k - (decDigits (r / 10)).length from by omega]
theorem repeat_one (b : UInt8) : ∀ c : Nat, repeatL [b] c = List.replicate c b
  | 0 => rfl
  | c + 1 => by
    rw [show repeatL [b] (c + 1) = [b] ++ repeatL [b] c from rfl, repeat_one b c]
    rfl
theorem str_append (a b : List UInt8) : (⟨a.toArray⟩ : ByteArray) ++ ⟨b.toArray⟩ = ⟨(a ++ b).toArray⟩ := by
  apply ByteArray.ext
  simp
theorem str_size (a : List UInt8) : (⟨a.toArray⟩ : ByteArray).size = a.length := rfl
end Go.Proofs.YthamagnlpndnoaaDoor
