/- When a text is a numeral of two words. Plain facts; no function of the program is named here. -/
import Derived.Test.YtpmnghobcciiaaaDoorDecMath
namespace Go.Proofs.YtpmnghobcciiaaaDoor

def okL (l : List UInt8) : Bool := decide (l = Lib.decDigits (decVal l)) && decide (decVal l < 340282366920938463463374607431768211456)
theorem decVal_snoc (l : List UInt8) (x : UInt8) : decVal (l ++ [x]) = 10 * decVal l + (x.toNat - 48) := by simp [decVal, List.foldl_append]
theorem foldl_ge : ∀ (b : List UInt8) (a : Nat), a ≤ b.foldl (fun a x => 10 * a + (x.toNat - 48)) a
  | [], _ => Nat.le_refl _
  | x :: b, a => Nat.le_trans (by omega) (foldl_ge b (10 * a + (x.toNat - 48)))
theorem decVal_take (l : List UInt8) (k : Nat) : decVal (l.take k) ≤ decVal l := by
  have h : decVal l = decVal (l.take k ++ l.drop k) := by rw [List.take_append_drop]
  rw [h]
  unfold decVal
  rw [List.foldl_append]
  exact foldl_ge _ _
theorem take_step (l : List UInt8) (i : Nat) (h : i < l.length) : decVal (l.take (i + 1)) = 10 * decVal (l.take i) + ((l.getD i 0).toNat - 48) := by
  rw [List.take_succ_eq_append_getElem h, decVal_snoc, List.getD_eq_getElem?_getD, List.getElem?_eq_getElem h]; rfl
theorem bad_nil : okL [] = false := by
  unfold okL
  rw [decide_eq_false (by intro h; have := dec_pos (decVal []); rw [← h] at this; simp at this)]; rfl
theorem bad_long {l : List UInt8} (h : 39 < l.length) : okL l = false := by
  unfold okL
  rw [Bool.and_eq_false_iff, decide_eq_false_iff_not, decide_eq_false_iff_not]
  by_cases hb : decVal l < 340282366920938463463374607431768211456
  · left
    intro e
    have := dec_len 39 (decVal l) (by omega) (by omega)
    rw [← e] at this
    omega
  · exact .inr hb
theorem bad_digit {l : List UInt8} {i : Nat} (hi : i < l.length) (h : (l.getD i 0).toNat < 48 ∨ 57 < (l.getD i 0).toNat) : okL l = false := by
  unfold okL
  rw [Bool.and_eq_false_iff, decide_eq_false_iff_not]
  left
  intro e
  have hm : l.getD i 0 ∈ l := by rw [List.getD_eq_getElem?_getD, List.getElem?_eq_getElem hi]; exact List.getElem_mem _
  have := dec_digits (decVal l) (l.getD i 0) (e ▸ hm)
  omega
theorem bad_big {l : List UInt8} {k : Nat} (h : 340282366920938463463374607431768211456 ≤ decVal (l.take k)) : okL l = false := by
  have := decVal_take l k
  unfold okL
  rw [decide_eq_false (by omega : ¬ decVal l < 340282366920938463463374607431768211456), Bool.and_false]
theorem okL_end {l : List UInt8} (h : decVal l < 340282366920938463463374607431768211456) : okL l = decide (l = Lib.decDigits (decVal l)) := by
  unfold okL; rw [decide_eq_true h, Bool.and_true]
theorem okL_dec {n : Nat} (h : n < 340282366920938463463374607431768211456) : okL (Lib.decDigits n) = true := by
  unfold okL; rw [dec_val, decide_eq_true rfl, decide_eq_true h]; rfl
end Go.Proofs.YtpmnghobcciiaaaDoor
