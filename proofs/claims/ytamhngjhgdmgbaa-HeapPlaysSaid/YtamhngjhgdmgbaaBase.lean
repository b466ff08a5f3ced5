/- Plain helpers: no function of the program is named here. Memory that was there stays as it was; two words are one number. -/
import Derived.Test.YtamhngjhgdmgbaaRows
import Derived.WalkKit
import Derived.WalkSpells
import Derived.WalkLawsBesides
import Derived.Lib.Hide
namespace Go.Proofs.Ytamhngjhgdmgbaa
open Go.RowKit

/-- A cell as it stands in a world, kept from the walk's rules. -/
def origC (w : World) (b o : Nat) : Option Value := w.cell? ⟨b, o, none⟩
def origF (w : World) (b o : Nat) : Bool := w.frozen? ⟨b, o, none⟩
def orC (a b : Option Value) : Option Value := match a with | some v => some v | none => b
def orF (a : Option Value) (x y : Bool) : Bool := match a with | some _ => x | none => y
@[go_sem, simp] theorem orC_some (v : Value) (b : Option Value) : orC (some v) b = some v := rfl
@[go_sem, simp] theorem orF_some (v : Value) (x y : Bool) : orF (some v) x y = x := rfl
theorem lt_of_cell {w : World} {b o : Nat} {v : Value} (h : w.cell? ⟨b, o, none⟩ = some v) : b < w.heap.size := by
  rcases Nat.lt_or_ge b w.heap.size with h1 | h1
  · exact h1
  · simp [World.cell?, Array.getElem?_eq_none h1] at h
/-- What a call leaves: each cell that was there reads as it did. -/
theorem keep {X w' : World} (hb : Below X.heap.size X w') : (∀ b o, w'.cell? ⟨b, o, none⟩ = orC (X.cell? ⟨b, o, none⟩) (origC w' b o)) ∧ (∀ b o, w'.frozen? ⟨b, o, none⟩ = orF (X.cell? ⟨b, o, none⟩) (X.frozen? ⟨b, o, none⟩) (origF w' b o)) := by
  constructor
  · intro b o
    cases h : X.cell? ⟨b, o, none⟩ with
    | none => rfl
    | some v => rw [hb.cell (p := ⟨b, o, none⟩) (lt_of_cell h), h]; rfl
  · intro b o
    cases h : X.cell? ⟨b, o, none⟩ with
    | none => rfl
    | some v => rw [hb.frozen (p := ⟨b, o, none⟩) (lt_of_cell h)]; rfl
@[go_sem low] theorem alloc_cell (w : World) (x : Obj) (b o : Nat) : (w.alloc x).cell? ⟨b, o, none⟩ = orC (w.cell? ⟨b, o, none⟩) (origC (w.alloc x) b o) := by
  cases h : w.cell? ⟨b, o, none⟩ with
  | none => rfl
  | some v => rw [World.cell?_alloc_lt _ _ _ (lt_of_cell h), h]; rfl
@[go_sem low] theorem alloc_frozen (w : World) (x : Obj) (b o : Nat) : (w.alloc x).frozen? ⟨b, o, none⟩ = orF (w.cell? ⟨b, o, none⟩) (w.frozen? ⟨b, o, none⟩) (origF (w.alloc x) b o) := by
  cases h : w.cell? ⟨b, o, none⟩ with
  | none => rfl
  | some v =>
    have hl := lt_of_cell h
    exact World.frozen?_of_block (w := w) (Below.heap_alloc w x b hl)
theorem drewN_below {B : Nat} {a w : World} (h : Below B a w) (n : Nat) : Below B a (w.drewN n) := ⟨h.os, h.tape, h.output, h.size, h.block⟩
theorem below_call {B : Nat} {a W w' : World} (hb : Below W.heap.size W w') (h : Below B a W) (hB : B ≤ W.heap.size) : Below B a w' := h.trans (hb.mono hB)

theorem ret_int {k : IntKind} {a b : Int} (h : a = b) : Ending.returned (.int k a) = .returned (.int k b) := by rw [h]
theorem ret_bool {a b : Bool} (h : a = b) : Ending.returned (.bool a) = .returned (.bool b) := by rw [h]
/-- A call's memory told from an earlier world on. -/
theorem cum {P : Program} {f : FuncId} {args : Array Value} {W0 w1 X : World} {v : Value} (hB : Below W0.heap.size W0 w1) (hX : Below w1.heap.size w1 X)
    (h : Calls P f args X fun e w' => e = .returned v ∧ Below X.heap.size X w') : Calls P f args X fun e w' => e = .returned v ∧ Below W0.heap.size W0 w' :=
  h.mono fun _ _ ⟨he, hb⟩ => ⟨he, (hB.trans (hX.mono hB.size)).trans (hb.mono (Nat.le_trans hB.size hX.size))⟩

/-- Two words as one number. -/
def num (h l : Int) : Int := h * 18446744073709551616 + l
def hiOf (n : Int) : Int := n / 18446744073709551616 % 18446744073709551616
def loOf (n : Int) : Int := n % 18446744073709551616
def Int64 (n : Int) : Prop := -9223372036854775808 ≤ n ∧ n ≤ 9223372036854775807
def Word (x : Int) : Prop := 0 ≤ x ∧ x < 18446744073709551616
def Big (n : Int) : Prop := 0 ≤ n ∧ n < 340282366920938463463374607431768211456
theorem hiOf_word (n : Int) : Word (hiOf n) := by unfold Word hiOf; omega
theorem loOf_word (n : Int) : Word (loOf n) := by unfold Word loOf; omega
theorem num_big {h l : Int} (hh : Word h) (hl : Word l) : Big (num h l) := by unfold Word Big num at *; omega
theorem num_hl {n : Int} (h : Big n) : num (hiOf n) (loOf n) = n := by unfold Big num hiOf loOf at *; omega
theorem hiOf_num {h l : Int} (hh : Word h) (hl : Word l) : hiOf (num h l) = h := by unfold Word num hiOf at *; omega
theorem loOf_num {h l : Int} (hl : Word l) : loOf (num h l) = l := by unfold Word num loOf at *; omega
theorem num_inj {a b c d : Int} (hb : Word b) (hd : Word d) (h : num a b = num c d) : a = c ∧ b = d := by unfold Word num at *; omega

/-- The sign of a comparison. -/
def cmpV (x y : Int) : Int := if x < y then -1 else if y < x then 1 else 0
def maxV (x y : Int) : Int := if x < y then y else x
def minV (x y : Int) : Int := if y < x then y else x
def eq2 (a b c d : Int) : Bool := decide (a = c) && decide (b = d)
def eq3 (a b c d e f : Int) : Bool := decide (a = d) && (decide (b = e) && decide (c = f))
def eq4 (a b c d e f g h : Int) : Bool := decide (a = e) && (decide (b = f) && (decide (c = g) && decide (d = h)))
@[go_sem, simp] theorem eq2_self (a b : Int) : eq2 a b a b = true := by simp [eq2]
@[go_sem, simp] theorem eq3_self (a b c : Int) : eq3 a b c a b c = true := by simp [eq3]
@[go_sem, simp] theorem eq4_self (a b c d : Int) : eq4 a b c d a b c d = true := by simp [eq4]

theorem mul_bd {M : Int} (x y : Int) (hx : -M ≤ x ∧ x ≤ M) (hy : -M ≤ y ∧ y ≤ M) : -(M * M) ≤ x * y ∧ x * y ≤ M * M := by
  have h1 := Int.mul_nonneg (show 0 ≤ M - x by omega) (show 0 ≤ M - y by omega)
  have h2 := Int.mul_nonneg (show 0 ≤ M + x by omega) (show 0 ≤ M + y by omega)
  have h3 := Int.mul_nonneg (show 0 ≤ M - x by omega) (show 0 ≤ M + y by omega)
  have h4 := Int.mul_nonneg (show 0 ≤ M + x by omega) (show 0 ≤ M - y by omega)
  simp only [Int.sub_mul, Int.mul_sub, Int.add_mul, Int.mul_add] at h1 h2 h3 h4
  rw [Int.mul_comm x M] at *
  omega
/-- Twice as far as two points may lie: the product of two such differences. -/
theorem mul_far (x y : Int) (hx : -2147483646 ≤ x ∧ x ≤ 2147483646) (hy : -2147483646 ≤ y ∧ y ≤ 2147483646) : -4611686009837453316 ≤ x * y ∧ x * y ≤ 4611686009837453316 := by
  have := mul_bd x y hx hy; omega
/-- A product of two words is a number of two words. -/
theorem mul_word {x y : Int} (hx : Word x) (hy : Word y) : 0 ≤ x * y ∧ x * y ≤ 340282366920938463426481119284349108225 := by
  unfold Word at *
  refine ⟨Int.mul_nonneg hx.1 hy.1, ?_⟩
  have h1 := Int.mul_nonneg (show 0 ≤ 18446744073709551615 - x by omega) (show 0 ≤ 18446744073709551615 + y by omega)
  simp only [Int.sub_mul, Int.mul_add] at h1
  have h2 : x * 18446744073709551615 ≥ 0 := by omega
  have h3 : x * y ≤ 18446744073709551615 * y := Int.mul_le_mul_of_nonneg_right (by omega) hy.1
  omega
theorem mul_word_big {x y : Int} (hx : Word x) (hy : Word y) : Big (x * y) := by
  have := mul_word hx hy; unfold Big; omega
end Go.Proofs.Ytamhngjhgdmgbaa
