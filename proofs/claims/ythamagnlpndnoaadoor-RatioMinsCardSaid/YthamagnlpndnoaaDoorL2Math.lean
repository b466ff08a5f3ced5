/- Distances stand in one order; alike ones have one text. Plain facts; no function of the program is named here. -/
import Derived.Test.YthamagnlpndnoaaDoorRatioT
import Derived.Test.YthamagnlpndnoaaDoorLowMath
import Derived.Test.YthamagnlpndnoaaDoorDecMath
namespace Go.Proofs.YthamagnlpndnoaaDoor
open Go.RowKit

/-- Fractions compared; one without a denominator is none, and behind all. -/
def cmpN (N d M e : Int) : Int := if d = 0 then (if e = 0 then 0 else 1) else if e = 0 then -1 else cmpV (N * e) (M * d)
theorem cmpD_cmpN (ah al ad bh bl bd : Int) : cmpD ah al ad bh bl bd = cmpN (num ah al) ad (num bh bl) bd := rfl
theorem cmpV_neg (x y : Int) : cmpV y x = -cmpV x y := by unfold cmpV; omega
theorem cmpV_bd (x y : Int) : -1 ≤ cmpV x y ∧ cmpV x y ≤ 1 := by unfold cmpV; omega
theorem cmpV_le {x y : Int} : cmpV x y ≤ 0 ↔ x ≤ y := by unfold cmpV; omega
theorem cmpV_lt {x y : Int} : cmpV x y < 0 ↔ x < y := by unfold cmpV; omega
theorem cmpV_zero {x y : Int} : cmpV x y = 0 ↔ x = y := by unfold cmpV; omega
theorem cmpN_neg (N d M e : Int) : cmpN M e N d = -cmpN N d M e := by
  unfold cmpN
  by_cases hd : d = 0 <;> by_cases he : e = 0 <;> simp [hd, he, cmpV_neg (N * e) (M * d)]
theorem cmpN_self (N d : Int) : cmpN N d N d = 0 := by
  unfold cmpN
  by_cases hd : d = 0
  · simp [hd]
  · rw [if_neg hd, if_neg hd]; exact cmpV_zero.2 rfl
theorem cmpN_bd (N d M e : Int) : -1 ≤ cmpN N d M e ∧ cmpN N d M e ≤ 1 := by
  unfold cmpN
  split
  · split <;> omega
  · split
    · omega
    · exact cmpV_bd _ _

theorem frac_le {a b c p q r : Int} (hp : 0 < p) (hq : 0 < q) (hr : 0 < r) (h1 : a * q ≤ b * p) (h2 : b * r ≤ c * q) : a * r ≤ c * p := by
  refine Int.le_of_mul_le_mul_right ?_ hq
  have e1 := Int.mul_le_mul_of_nonneg_right h1 (Int.le_of_lt hr)
  have e2 := Int.mul_le_mul_of_nonneg_right h2 (Int.le_of_lt hp)
  rw [Int.mul_right_comm a r q, Int.mul_right_comm c p q]
  rw [Int.mul_right_comm b p r] at e1
  omega
theorem frac_lt {a b c p q r : Int} (hp : 0 < p) (hq : 0 < q) (hr : 0 < r) (h1 : a * q ≤ b * p) (h2 : b * r ≤ c * q) (h : a * q < b * p ∨ b * r < c * q) : a * r < c * p := by
  refine Int.lt_of_mul_lt_mul_right (a := q) ?_ (Int.le_of_lt hq)
  have e1 := Int.mul_le_mul_of_nonneg_right h1 (Int.le_of_lt hr)
  have e2 := Int.mul_le_mul_of_nonneg_right h2 (Int.le_of_lt hp)
  rw [Int.mul_right_comm a r q, Int.mul_right_comm c p q]
  rw [Int.mul_right_comm b p r] at e1
  rcases h with h | h
  · have := Int.mul_lt_mul_of_pos_right h hr
    rw [Int.mul_right_comm b p r] at this
    omega
  · have := Int.mul_lt_mul_of_pos_right h hp
    omega

theorem cmpN_trans {N d M e L f : Int} (hd : 0 ≤ d) (he : 0 ≤ e) (hf : 0 ≤ f) (h1 : cmpN N d M e ≤ 0) (h2 : cmpN M e L f ≤ 0) :
    cmpN N d L f ≤ 0 ∧ (cmpN N d M e < 0 ∨ cmpN M e L f < 0 → cmpN N d L f < 0) := by
  unfold cmpN at *
  by_cases zd : d = 0 <;> by_cases ze : e = 0 <;> by_cases zf : f = 0 <;> simp only [zd, ze, zf, if_true, if_false] at h1 h2 ⊢
  all_goals try (first | omega | (exfalso; omega))
  · rw [cmpV_le] at h1 h2
    refine ⟨cmpV_le.2 (frac_le (by omega) (by omega) (by omega) h1 h2), fun h => ?_⟩
    rw [cmpV_lt, cmpV_lt] at h
    exact cmpV_lt.2 (frac_lt (by omega) (by omega) (by omega) h1 h2 h)

theorem slash_free (u : Nat) : (47 : UInt8) ∉ Lib.decDigits u := fun h => by
  have := dec_digits u 47 h
  simp at this
theorem split_slash : ∀ {a b c d : List UInt8}, (47 : UInt8) ∉ a → (47 : UInt8) ∉ c → a ++ 47 :: b = c ++ 47 :: d → a = c ∧ b = d
  | [], _, [], _, _, _, h => ⟨rfl, by simpa using h⟩
  | [], _, y :: c, _, _, hc, h => by
    rw [List.nil_append, List.cons_append] at h
    injection h with h1 _
    exact absurd (h1 ▸ List.mem_cons_self) hc
  | x :: a, _, [], _, ha, _, h => by
    rw [List.nil_append, List.cons_append] at h
    injection h with h1 _
    exact absurd (h1 ▸ List.mem_cons_self) ha
  | x :: a, b, y :: c, d, ha, hc, h => by
    rw [List.cons_append, List.cons_append] at h
    injection h with h1 h2
    obtain ⟨e1, e2⟩ := split_slash (fun h => ha (List.mem_cons_of_mem _ h)) (fun h => hc (List.mem_cons_of_mem _ h)) h2
    exact ⟨by rw [h1, e1], e2⟩

/-- A fraction's text as its bytes. -/
def fracL (q e : Int) : List UInt8 := if e = 1 then Lib.decDigits q.toNat else Lib.decDigits q.toNat ++ 47 :: Lib.decDigits e.toNat
theorem distText_frac {N d : Int} (hd : d ≠ 0) : distText N d = ⟨(fracL (N / lowG N d) (d / lowG N d)).toArray⟩ := by
  unfold distText fracL numeral
  rw [if_neg hd]
  split
  · rfl
  · rw [show (⟨#[47]⟩ : ByteArray) = ⟨[47].toArray⟩ from rfl, str_append, str_append]; simp
theorem frac_inj {q e q' e' : Int} (hq : 0 ≤ q) (he : 0 ≤ e) (hq' : 0 ≤ q') (he' : 0 ≤ e') (h : fracL q e = fracL q' e') : q = q' ∧ e = e' := by
  unfold fracL at h
  split at h <;> split at h
  · rename_i h1 h2
    have := dec_inj h
    omega
  · exact absurd (h ▸ (by simp : (47 : UInt8) ∈ Lib.decDigits q'.toNat ++ 47 :: Lib.decDigits e'.toNat)) (slash_free _)
  · exact absurd (h ▸ (by simp : (47 : UInt8) ∈ Lib.decDigits q.toNat ++ 47 :: Lib.decDigits e.toNat)) (slash_free _)
  · obtain ⟨h1, h2⟩ := split_slash (slash_free _) (slash_free _) h
    have := dec_inj h1
    have := dec_inj h2
    omega
theorem frac_none {q e : Int} : fracL q e ≠ [110, 111, 110, 101] := by
  intro h
  have hm : (110 : UInt8) ∈ fracL q e := by rw [h]; simp
  have hn : ∀ u, (110 : UInt8) ∉ Lib.decDigits u := fun u hu => by
    have := dec_digits u 110 hu
    simp at this
  unfold fracL at hm
  split at hm
  · exact hn _ hm
  · rw [List.mem_append] at hm
    rcases hm with hm | hm
    · exact hn _ hm
    · simp only [List.mem_cons] at hm
      rcases hm with hm | hm
      · cases hm
      · exact hn _ hm

theorem text_iff {N d M e : Int} (hN : 0 ≤ N) (hd : 0 ≤ d) (hM : 0 ≤ M) (he : 0 ≤ e) : distText N d = distText M e ↔ cmpN N d M e = 0 := by
  by_cases zd : d = 0 <;> by_cases ze : e = 0
  · subst zd; subst ze; simp [distText, cmpN]
  · rw [distText_frac ze, zd]
    constructor
    · intro h
      have h' : (⟨[110, 111, 110, 101].toArray⟩ : ByteArray) = ⟨(fracL (M / lowG M e) (e / lowG M e)).toArray⟩ := by
        rw [← h]; unfold distText; rw [if_pos rfl]
      exact absurd (str_inj h').symm frac_none
    · intro h; unfold cmpN at h; rw [if_pos rfl, if_neg ze] at h; omega
  · rw [distText_frac zd, ze]
    constructor
    · intro h
      have h' : (⟨[110, 111, 110, 101].toArray⟩ : ByteArray) = ⟨(fracL (N / lowG N d) (d / lowG N d)).toArray⟩ := by
        rw [h]; unfold distText; rw [if_pos rfl]
      exact absurd (str_inj h').symm frac_none
    · intro h; unfold cmpN at h; rw [if_neg zd, if_pos rfl] at h; omega
  · have hd' : 0 < d := by omega
    have he' : 0 < e := by omega
    obtain ⟨a1, _, a3, _⟩ := low_le hN hd'
    obtain ⟨b1, _, b3, _⟩ := low_le hM he'
    rw [distText_frac zd, distText_frac ze]
    unfold cmpN
    rw [if_neg zd, if_neg ze, cmpV_zero]
    constructor
    · intro h
      obtain ⟨h1, h2⟩ := frac_inj a1 (Int.le_of_lt a3) b1 (Int.le_of_lt b3) (str_inj h)
      exact low_inj hN hd' hM he' h1 h2
    · intro h
      obtain ⟨h1, h2⟩ := low_eq hN hd' hM he' h
      rw [h1, h2]
end Go.Proofs.YthamagnlpndnoaaDoor
