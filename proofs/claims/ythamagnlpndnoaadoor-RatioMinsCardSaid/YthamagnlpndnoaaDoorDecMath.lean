/- Plain facts on decimal numerals: their digits, their value. No function of the program is named here. -/
import Derived.Test.YthamagnlpndnoaaDoorTextMath
import Derived.Laws.Strings
namespace Go.Proofs.YthamagnlpndnoaaDoor

theorem dec_digits : ∀ (u : Nat) (x : UInt8), x ∈ Lib.decDigits u → 48 ≤ x.toNat ∧ x.toNat ≤ 57 := by
  intro u
  induction u using Nat.strongRecOn with
  | _ u ih =>
    intro x hx
    by_cases h : u < 10
    · rw [dec_small h] at hx
      simp at hx
      subst hx
      simp; omega
    · rw [dec_big (by omega), List.mem_append] at hx
      rcases hx with hx | hx
      · exact ih (u / 10) (by omega) x hx
      · simp at hx
        subst hx
        simp; omega
def decVal (l : List UInt8) : Nat := l.foldl (fun a x => 10 * a + (x.toNat - 48)) 0
theorem dec_val (u : Nat) : decVal (Lib.decDigits u) = u := by
  induction u using Nat.strongRecOn with
  | _ u ih =>
    by_cases h : u < 10
    · rw [dec_small h]; simp [decVal]; omega
    · rw [dec_big (by omega)]
      have := ih (u / 10) (by omega)
      unfold decVal at *
      rw [List.foldl_append, this]
      simp; omega
theorem dec_inj {u v : Nat} (h : Lib.decDigits u = Lib.decDigits v) : u = v := by rw [← dec_val u, ← dec_val v, h]

theorem str_beq (s t : ByteArray) : (s.toList == t.toList) = decide (s = t) := by
  rw [ByteArray.toList_eq, ByteArray.toList_eq, Bool.eq_iff_iff, beq_iff_eq, decide_eq_true_eq]
  constructor
  · intro h; exact ByteArray.ext (Array.toList_inj.1 h)
  · rintro rfl; rfl
theorem str_inj {a b : List UInt8} (h : (⟨a.toArray⟩ : ByteArray) = ⟨b.toArray⟩) : a = b := by
  injection h with h; exact congrArg Array.toList h
end Go.Proofs.YthamagnlpndnoaaDoor
