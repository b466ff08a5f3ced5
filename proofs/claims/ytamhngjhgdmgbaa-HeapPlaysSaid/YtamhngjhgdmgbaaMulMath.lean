/- Words of 32 bits, the least first: their number, and how a product is made of them. Plain lists; no program. -/
import Derived.Test.YtamhngjhgdmgbaaBase
namespace Go.Proofs.Ytamhngjhgdmgbaa
open Go.RowKit

def B32 : Int := 4294967296
/-- The number of a row of words. -/
def val : List Int → Int
  | [] => 0
  | x :: l => x + B32 * val l
def pw (n : Nat) : Int := B32 ^ n
theorem pw_zero : pw 0 = 1 := rfl
theorem pw_succ (n : Nat) : pw (n + 1) = B32 * pw n := by unfold pw; rw [Int.pow_succ]; exact Int.mul_comm _ _
theorem pw_add (a b : Nat) : pw (a + b) = pw a * pw b := by unfold pw; rw [Int.pow_add]
theorem val_set (l : List Int) : ∀ (j : Nat) (x : Int), j < l.length → val (l.set j x) = val l + (x - l.getD j 0) * pw j := by
  induction l with
  | nil => intro j x h; simp at h
  | cons a l ih =>
    intro j x h
    cases j with
    | zero => simp [val, pw_zero]; omega
    | succ j =>
      simp only [List.set_cons_succ, val, List.getD_cons_succ, pw_succ]
      rw [ih j x (by simpa using h)]
      grind
theorem val_take (l : List Int) : ∀ (k : Nat), k < l.length → val (l.take (k + 1)) = val (l.take k) + l.getD k 0 * pw k := by
  induction l with
  | nil => intro k h; simp at h
  | cons a l ih =>
    intro k h
    cases k with
    | zero => simp [val, pw_zero]
    | succ k =>
      simp only [List.take_succ_cons, val, List.getD_cons_succ, pw_succ]
      rw [ih k (by simpa using h)]
      grind
theorem val_zeros (n : Nat) : val (List.replicate n 0) = 0 := by
  induction n with
  | zero => rfl
  | succ n ih => simp [List.replicate_succ, val, ih]
def Small (l : List Int) : Prop := ∀ j, 0 ≤ l.getD j 0 ∧ l.getD j 0 < 4294967296
theorem small_set {l : List Int} (h : Small l) (j : Nat) {x : Int} (h0 : 0 ≤ x) (h1 : x < 4294967296) : Small (l.set j x) := by
  intro i
  by_cases hij : j = i
  · subst hij
    by_cases hl : j < l.length
    · simp [List.getD_eq_getElem?_getD, hl, h0, h1]
    · rw [List.set_eq_of_length_le (by omega)]; exact h j
  · have := h i
    rw [List.getD_eq_getElem?_getD] at *
    rw [List.getElem?_set_ne hij]
    exact this
theorem getD_set_other (l : List Int) {i j : Nat} (x : Int) (h : i ≠ j) : (l.set i x).getD j 0 = l.getD j 0 := by
  rw [List.getD_eq_getElem?_getD, List.getD_eq_getElem?_getD, List.getElem?_set_ne h]
/-- What one step of the school's product comes to. -/
theorem step_bd {a b o c : Int} (ha : 0 ≤ a ∧ a < 4294967296) (hb : 0 ≤ b ∧ b < 4294967296) (ho : 0 ≤ o ∧ o < 4294967296) (hc : 0 ≤ c ∧ c < 4294967296) : 0 ≤ a * b ∧ a * b ≤ 18446744065119617025 ∧ 0 ≤ a * b + o + c ∧ a * b + o + c < 18446744073709551616 := by
  have h1 := mul_bd (M := 4294967295) a b (by omega) (by omega)
  have h2 := Int.mul_nonneg ha.1 hb.1
  omega
/-- One step of the inner round. -/
theorem inner_step {os : List Int} {i k : Nat} {a b c V W v : Int} (hl : i + k < os.length) (hv : v = a * b + os.getD (i + k) 0 + c) (h : val os + c * pw (i + k) = V + a * W * pw i) :
    val (os.set (i + k) (v % 4294967296)) + v / 4294967296 * pw (i + k + 1) = V + a * (W + b * pw k) * pw i := by
  rw [val_set os _ _ hl, pw_succ, pw_add]
  rw [pw_add] at h
  have e : v = v % 4294967296 + 4294967296 * (v / 4294967296) := (Int.emod_add_mul_ediv v 4294967296).symm
  have hB : B32 = 4294967296 := rfl
  rw [hB]
  generalize v % 4294967296 = r at *
  generalize v / 4294967296 = q at *
  generalize os.getD (i + k) 0 = o at *
  grind
theorem outer_step {os : List Int} {i m : Nat} {c V a W : Int} (hl : i + m < os.length) (h0 : os.getD (i + m) 0 = 0) (h : val os + c * pw (i + m) = V * W + a * W * pw i) : val (os.set (i + m) c) = (V + a * pw i) * W := by
  rw [val_set os _ _ hl, h0]
  grind

/-- Words of 64 bits, each as two of 32. -/
def wordsOf (xs : List Int) : List Int := xs.flatMap fun x => [x % 4294967296, x / 4294967296]
theorem wordsOf_length (xs : List Int) : (wordsOf xs).length = 2 * xs.length := by
  induction xs with
  | nil => rfl
  | cons x l ih => simp only [wordsOf, List.flatMap_cons, List.length_append, List.length_cons, List.length_nil] at *; omega
theorem wordsOf_small {xs : List Int} (h : ∀ x ∈ xs, Word x) : Small (wordsOf xs) := by
  induction xs with
  | nil => intro j; simp [wordsOf]
  | cons x l ih =>
    intro j
    have hx := h x List.mem_cons_self
    unfold Word at hx
    have e : wordsOf (x :: l) = x % 4294967296 :: x / 4294967296 :: wordsOf l := rfl
    rw [e]
    match j with
    | 0 => simp only [List.getD_cons_zero]; omega
    | 1 => simp only [List.getD_cons_succ, List.getD_cons_zero]; omega
    | j + 2 => simpa using ih (fun y hy => h y (List.mem_cons_of_mem _ hy)) j
theorem wordsOf_snoc (xs : List Int) (x : Int) : wordsOf (xs ++ [x]) = wordsOf xs ++ [x % 4294967296, x / 4294967296] := by
  simp [wordsOf]
theorem val_words1 (x : Int) : val (wordsOf [x]) = x := by
  simp only [wordsOf, List.flatMap_cons, List.flatMap_nil, List.append_nil, val, B32]; omega
theorem val_words2 (l h : Int) : val (wordsOf [l, h]) = num h l := by
  simp only [wordsOf, List.flatMap_cons, List.flatMap_nil, List.append_nil, List.cons_append, List.nil_append, val, B32, num]; omega
end Go.Proofs.Ytamhngjhgdmgbaa
