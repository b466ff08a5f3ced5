/- What segm answers, as plain geometry. -/
import Derived.Test.YtocpdphchignpaaSegE
import Derived.Test.YtocpdphchignpaaSegBoxMath
import Derived.Test.YtocpdphchignpaaRefSegB
namespace Go.Proofs.Ytocpdphchignpaa
open Go.RowKit

theorem onV_iff (a b p : Int × Int) : onV a b p = true ↔ ok3 a b p = true ∧ OnP a b p := by
  unfold onV
  cases h : ok3 a b p
  · simp
  · rw [crossV_cr h]
    simp only [Bool.true_and, Bool.and_eq_true, decide_eq_true_eq, true_and]
    unfold OnP Opp minV maxV
    constructor
    · rintro ⟨h0, h1, h2, h3, h4⟩
      exact ⟨h0, by omega, by omega⟩
    · rintro ⟨h0, h1, h2⟩
      exact ⟨h0, by omega, by omega, by omega, by omega⟩
theorem ok4_iff (a b c d : Int × Int) : ok4 a b c d = true ↔ okB a = true ∧ okB b = true ∧ okB c = true ∧ okB d = true := by simp [ok4]
theorem oriV_cr {a b c : Int × Int} (ha : okB a = true) (hb : okB b = true) (hc : okB c = true) : oriV a b c = cmpV (cr a b c) 0 := by
  unfold oriV; rw [crossV_cr ((ok3_iff a b c).2 ⟨ha, hb, hc⟩)]
theorem cmp_opp (x y : Int) : cmpV x 0 * cmpV y 0 < 0 ↔ SOpp x y := by
  rw [← sopp_iff]; unfold SOpp cmpV; omega
theorem properV_iff (a b c d : Int × Int) : properV a b c d = true ↔ ok4 a b c d = true ∧ ProperP a b c d := by
  unfold properV
  cases h : ok4 a b c d
  · simp
  · rw [ok4_iff] at h
    obtain ⟨ha, hb, hc, hd⟩ := h
    rw [oriV_cr ha hb hc, oriV_cr ha hb hd, oriV_cr hc hd ha, oriV_cr hc hd hb]
    simp only [Bool.true_and, Bool.and_eq_true, decide_eq_true_eq, true_and, cmp_opp]
    rfl
theorem meetV_iff (a b c d : Int × Int) : meetV a b c d = true ↔ ok4 a b c d = true ∧ MeetP a b c d := by
  unfold meetV MeetP
  cases h : ok4 a b c d
  · simp
  · have h4 := h
    rw [ok4_iff] at h4
    obtain ⟨ha, hb, hc, hd⟩ := h4
    simp only [Bool.true_and, Bool.or_eq_true, true_and, properV_iff, onV_iff, h, ok3_iff, ha, hb, hc, hd, and_self]

def meetsBoxV (a b : Int × Int) (lx ly hx hy : Int) : Bool := ok2 a b && (boxB (lx, ly, hx, hy) && (hasB lx ly hx hy a.1 a.2 || (hasB lx ly hx hy b.1 b.2 || (meetV a b (lx, ly) (hx, hy) || meetV a b (lx, hy) (hx, ly)))))
/-- The i-th side of a box, going round. -/
def cornX (lx hx : Int) (i : Nat) : Int := if i = 1 ∨ i = 2 then hx else lx
def cornY (ly hy : Int) (i : Nat) : Int := if i = 2 ∨ i = 3 then hy else ly
def sideV (a b : Int × Int) (lx ly hx hy : Int) (i : Nat) : Bool := meetV a b (cornX lx hx i, cornY ly hy i) (cornX lx hx ((i + 1) % 4), cornY ly hy ((i + 1) % 4))
def sidesV (a b : Int × Int) (lx ly hx hy : Int) : Bool := sideV a b lx ly hx hy 0 || (sideV a b lx ly hx hy 1 || (sideV a b lx ly hx hy 2 || sideV a b lx ly hx hy 3))

theorem hasB_iff {lx ly hx hy : Int} {p : Int × Int} (h : boxB (lx, ly, hx, hy) = true) (hp : okB p = true) : hasB lx ly hx hy p.1 p.2 = true ↔ InP lx ly hx hy p := by
  unfold hasB InP
  have e : (p.1, p.2) = p := rfl
  rw [h, e, hp]
  simp
theorem corners_ok {lx ly hx hy : Int} (h : boxB (lx, ly, hx, hy) = true) : okB (lx, ly) = true ∧ okB (hx, ly) = true ∧ okB (hx, hy) = true ∧ okB (lx, hy) = true ∧ lx ≤ hx ∧ ly ≤ hy := by
  rw [boxB_iff, okB_iff, okB_iff] at h
  simp only [okB_iff]; omega
theorem meetsBoxV_iff (a b : Int × Int) (lx ly hx hy : Int) : meetsBoxV a b lx ly hx hy = true ↔ (okB a = true ∧ okB b = true ∧ boxB (lx, ly, hx, hy) = true) ∧ SatP a b lx ly hx hy := by
  unfold meetsBoxV
  cases h2 : ok2 a b
  · have : ¬ (okB a = true ∧ okB b = true) := by rw [← ok2_iff, h2]; simp
    simp only [Bool.false_and, Bool.false_eq_true, false_iff]
    rintro ⟨⟨x, y, _⟩, _⟩; exact this ⟨x, y⟩
  · cases hb : boxB (lx, ly, hx, hy)
    · simp
    · rw [ok2_iff] at h2
      obtain ⟨k1, k2, k3, k4, kx, ky⟩ := corners_ok hb
      simp only [Bool.true_and, Bool.or_eq_true, hasB_iff hb h2.1, hasB_iff hb h2.2, meetV_iff, ok4_iff, h2.1, h2.2, k1, k2, k3, k4, and_self, true_and, meet_iff]
      exact box_diags kx ky
theorem sidesV_iff {a b : Int × Int} {lx ly hx hy : Int} (ha : okB a = true) (hb : okB b = true) (h : boxB (lx, ly, hx, hy) = true) : sidesV a b lx ly hx hy = true ↔ SidesP a b lx ly hx hy := by
  obtain ⟨k1, k2, k3, k4, kx, ky⟩ := corners_ok h
  have e0 : sideV a b lx ly hx hy 0 = meetV a b (lx, ly) (hx, ly) := rfl
  have e1 : sideV a b lx ly hx hy 1 = meetV a b (hx, ly) (hx, hy) := rfl
  have e2 : sideV a b lx ly hx hy 2 = meetV a b (hx, hy) (lx, hy) := rfl
  have e3 : sideV a b lx ly hx hy 3 = meetV a b (lx, hy) (lx, ly) := rfl
  unfold sidesV
  rw [e0, e1, e2, e3]
  simp only [Bool.or_eq_true, meetV_iff, ok4_iff, ha, hb, k1, k2, k3, k4, and_self, true_and, meet_iff]
  rfl
/-- By diagonals or by sides: the same. -/
theorem meetsBox_sides (a b : Int × Int) (lx ly hx hy : Int) : meetsBoxV a b lx ly hx hy = (okB a && (okB b && (boxB (lx, ly, hx, hy) && (hasB lx ly hx hy a.1 a.2 || (hasB lx ly hx hy b.1 b.2 || sidesV a b lx ly hx hy))))) := by
  rw [Bool.eq_iff_iff, meetsBoxV_iff]
  cases ha : okB a
  · simp
  · cases hb : okB b
    · simp
    · cases h : boxB (lx, ly, hx, hy)
      · simp
      · obtain ⟨_, _, _, _, kx, ky⟩ := corners_ok h
        simp only [Bool.true_and, Bool.or_eq_true, hasB_iff h ha, hasB_iff h hb, sidesV_iff ha hb h, true_and]
        exact (box_sides2 kx ky).symm
theorem box_law {a b : Int × Int} {lx ly hx hy : Int} (ha : okB a = true) (hb : okB b = true) (h : boxB (lx, ly, hx, hy) = true) : meetsBoxV a b lx ly hx hy = (hasB lx ly hx hy a.1 a.2 || sidesV a b lx ly hx hy) := by
  obtain ⟨_, _, _, _, kx, ky⟩ := corners_ok h
  rw [Bool.eq_iff_iff, meetsBoxV_iff]
  simp only [Bool.or_eq_true, hasB_iff h ha, sidesV_iff ha hb h, ha, hb, h, true_and, and_self]
  exact (box_sides kx ky).symm
theorem box_flip (a b : Int × Int) (lx ly hx hy : Int) : meetsBoxV b a lx ly hx hy = meetsBoxV a b lx ly hx hy := by
  rw [Bool.eq_iff_iff, meetsBoxV_iff, meetsBoxV_iff, sat_flip_iff]
  constructor <;> (rintro ⟨⟨h1, h2, h3⟩, h4⟩; exact ⟨⟨h2, h1, h3⟩, h4⟩)
theorem box_point (a b p : Int × Int) : meetsBoxV a b p.1 p.2 p.1 p.2 = onV a b p := by
  rw [Bool.eq_iff_iff, meetsBoxV_iff, onV_iff, sat_point, boxB_iff, ok3_iff]
  have e : (p.1, p.2) = p := rfl
  rw [e]
  constructor
  · rintro ⟨⟨h1, h2, h3, _⟩, h4⟩; exact ⟨⟨h1, h2, h3⟩, h4⟩
  · rintro ⟨⟨h1, h2, h3⟩, h4⟩; exact ⟨⟨h1, h2, h3, h3, Int.le_refl _, Int.le_refl _⟩, h4⟩
end Go.Proofs.Ytocpdphchignpaa
