/- plane: Area, Grow. -/
import Derived.Test.YtandehgdmefpaaaUnion
import Derived.Test.YtandehgdmefpaaaWideSub
import Derived.Deep.RegionHeld3
namespace Go.Proofs.Ytandehgdmefpaaa
open Go.RowKit

/-- A box's area; 0 of none. -/
def areaN (b : B4) : Int := if boxB b = true then (b.2.2.1 - b.1) * (b.2.2.2 - b.2.1) else 0
theorem boxB_bd {b : B4} (h : boxB b = true) : (-1073741823 ≤ b.1 ∧ b.1 ≤ 1073741823) ∧ (-1073741823 ≤ b.2.1 ∧ b.2.1 ≤ 1073741823) ∧ (-1073741823 ≤ b.2.2.1 ∧ b.2.2.1 ≤ 1073741823) ∧ (-1073741823 ≤ b.2.2.2 ∧ b.2.2.2 ≤ 1073741823) ∧ b.1 ≤ b.2.2.1 ∧ b.2.1 ≤ b.2.2.2 := by
  obtain ⟨x, y, z, u⟩ := b
  rw [boxB_iff, okB_iff, okB_iff] at h
  obtain ⟨⟨h1, h2⟩, ⟨h3, h4⟩, h5, h6⟩ := h
  exact ⟨h1, h2, h3, h4, h5, h6⟩
theorem areaN_bd (b : B4) : 0 ≤ areaN b ∧ areaN b ≤ 4611686009837453316 := by
  unfold areaN
  split
  · rename_i h
    have hb := boxB_bd h
    have h1 := mul_far (b.2.2.1 - b.1) (b.2.2.2 - b.2.1) (by omega) (by omega)
    have h2 : 0 ≤ (b.2.2.1 - b.1) * (b.2.2.2 - b.2.1) := Int.mul_nonneg (by omega) (by omega)
    omega
  · omega
theorem areaN_big (b : B4) : Big (areaN b) := by have := areaN_bd b; unfold Big; omega

set_option maxHeartbeats 400000 in
theorem area_any (lx ly hx hy : Int) (w : World) :
    Calls Try.prog 27 #[.agg #[.int .i64 lx, .int .i64 ly, .int .i64 hx, .int .i64 hy]] w fun e w' => e = .returned (.agg #[.int .u64 (hiOf (areaN (lx, ly, hx, hy))), .int .u64 (loOf (areaN (lx, ly, hx, hy)))]) ∧ Below w.heap.size w w' := by
  cases h : boxB (lx, ly, hx, hy)
  · have e1 : areaN (lx, ly, hx, hy) = 0 := by simp [areaN, h]
    rw [e1]; clear e1
    go_enter Try.func27, Try.ntmps27
    go_wp2_with (first | (go_at_call 44; refine (boxes1 _ _ (by simp) _ _ _ _ _).mono ?_; rintro e w' ⟨rfl, hB⟩; obtain ⟨hc, hf⟩ := keep hB; have hz := hB.size; try simp at hz))
    exact bodyPost_ret (v := .agg #[.int .u64 0, .int .u64 0]) (by simp [*, results, Try.results27, go_sem]) rfl ⟨rfl, by (repeat' (first | (with_reducible exact Below.refl _ _) | (with_reducible assumption) | (with_reducible refine Below.alloc ?_ ?_ _) | (with_reducible refine Below.drew ?_) | (with_reducible refine Below.setCell ?_ ?_ _) | (with_reducible refine below_call (by with_reducible assumption) ?_ ?_) | (first | (with_reducible exact Nat.le_refl _) | (with_reducible assumption) | omega | (simp; done) | (simp; omega))))⟩
  · have e1 : areaN (lx, ly, hx, hy) = (hx - lx) * (hy - ly) := by simp [areaN, h]
    rw [e1]; clear e1
    obtain ⟨⟨a1, a2⟩, ⟨b1, b2⟩, ⟨c1, c2⟩, ⟨d1, d2⟩, e1, e2⟩ := boxB_bd h
    dsimp only at a1 a2 b1 b2 c1 c2 d1 d2 e1 e2
    have i1 : Word (hx - lx) := by unfold Word; omega
    have i2 : Word (hy - ly) := by unfold Word; omega
    go_enter Try.func27, Try.ntmps27
    go_wp2_with (first | (go_at_call 44; refine (boxes1 _ _ (by simp) _ _ _ _ _).mono ?_; rintro e w' ⟨rfl, hB⟩; obtain ⟨hc, hf⟩ := keep hB; have hz := hB.size; try simp at hz) | (go_at_call 48; refine (wmul_any _ _ i1 i2 _).mono ?_; rintro e w' ⟨rfl, hB⟩; obtain ⟨hc, hf⟩ := keep hB; have hz := hB.size; try simp at hz))
    exact bodyPost_ret (v := .agg #[.int .u64 (hiOf ((hx - lx) * (hy - ly))), .int .u64 (loOf ((hx - lx) * (hy - ly)))]) (by simp [*, results, Try.results27, go_sem]) rfl ⟨rfl, by (repeat' (first | (with_reducible exact Below.refl _ _) | (with_reducible assumption) | (with_reducible refine Below.alloc ?_ ?_ _) | (with_reducible refine Below.drew ?_) | (with_reducible refine Below.setCell ?_ ?_ _) | (with_reducible refine below_call (by with_reducible assumption) ?_ ?_) | (first | (with_reducible exact Nat.le_refl _) | (with_reducible assumption) | omega | (simp; done) | (simp; omega))))⟩

theorem union2 (W : World) (b : Nat) (hb : b = W.heap.size) (t : TypeId) (a1 a2 a3 a4 b1 b2 b3 b4 : Int) :
    Calls Try.prog 24 #[.slice (some ⟨b, 0, none⟩) 2 2] (W.alloc (.cells #[.int .i64 a1, .int .i64 a2, .int .i64 a3, .int .i64 a4, .int .i64 b1, .int .i64 b2, .int .i64 b3, .int .i64 b4] t)) fun e w' =>
      e = .returned (.tuple #[.agg #[.int .i64 (unionV [(a1, a2, a3, a4), (b1, b2, b3, b4)]).1, .int .i64 (unionV [(a1, a2, a3, a4), (b1, b2, b3, b4)]).2.1, .int .i64 (unionV [(a1, a2, a3, a4), (b1, b2, b3, b4)]).2.2.1, .int .i64 (unionV [(a1, a2, a3, a4), (b1, b2, b3, b4)]).2.2.2], errV (unionE [(a1, a2, a3, a4), (b1, b2, b3, b4)])]) ∧
      Below (W.alloc (.cells #[.int .i64 a1, .int .i64 a2, .int .i64 a3, .int .i64 a4, .int .i64 b1, .int .i64 b2, .int .i64 b3, .int .i64 b4] t)).heap.size (W.alloc (.cells #[.int .i64 a1, .int .i64 a2, .int .i64 a3, .int .i64 a4, .int .i64 b1, .int .i64 b2, .int .i64 b3, .int .i64 b4] t)) w' :=
  union_any b 0 2 2 [(a1, a2, a3, a4), (b1, b2, b3, b4)] _ (by simp) (by simp) (by simp) (by simp) (by simp [hb]) (by subst hb; intro i hi; match i, hi with | 0, _ => simp | 1, _ => simp)

theorem unionE2 (b c : B4) : unionE [b, c] = if boxB b = true then (if boxB c = true then 0 else codeB c) else codeB b := by
  simp [unionE, badOf]
theorem codeB_ne {b : B4} (h : boxB b = false) : (codeB b == 0) = false := by rw [codeB_zero]; exact h
/-- How much a box's area grows by another one. -/
def growN (b c : B4) : Int := if boxB b = true ∧ boxB c = true then areaN (uni b c) - areaN b else 0
theorem uni_self (b : B4) : uni b b = b := by obtain ⟨x, y, z, u⟩ := b; simp [uni, minV, maxV]
theorem unionV2 (b c : B4) (hb : boxB b = true) (hc : boxB c = true) : unionV [b, c] = uni b c := by
  have e : unionE [b, c] = 0 := by rw [unionE2, if_pos hb, if_pos hc]
  unfold unionV; rw [if_pos e]
  show uni (uni b b) c = uni b c
  rw [uni_self]

set_option maxHeartbeats 1000000 in
theorem grow_any (a1 a2 a3 a4 b1 b2 b3 b4 : Int) (w : World) :
    Calls Try.prog 28 #[.agg #[.int .i64 a1, .int .i64 a2, .int .i64 a3, .int .i64 a4], .agg #[.int .i64 b1, .int .i64 b2, .int .i64 b3, .int .i64 b4]] w fun e w' => e = .returned (.agg #[.int .u64 (hiOf (growN (a1, a2, a3, a4) (b1, b2, b3, b4))), .int .u64 (loOf (growN (a1, a2, a3, a4) (b1, b2, b3, b4)))]) ∧ Below w.heap.size w w' := by
  by_cases h : boxB (a1, a2, a3, a4) = true ∧ boxB (b1, b2, b3, b4) = true
  · have e1 : growN (a1, a2, a3, a4) (b1, b2, b3, b4) = areaN (uni (a1, a2, a3, a4) (b1, b2, b3, b4)) - areaN (a1, a2, a3, a4) := by unfold growN; rw [if_pos h]
    rw [e1]; clear e1
    have e2 := unionV2 _ _ h.1 h.2
    have e3 : errV (unionE [(a1, a2, a3, a4), (b1, b2, b3, b4)]) = .nilIface := by rw [unionE2, if_pos h.1, if_pos h.2]; rfl
    have g1 := areaN_big (uni (a1, a2, a3, a4) (b1, b2, b3, b4))
    have g2 := areaN_big (a1, a2, a3, a4)
    generalize hu : uni (a1, a2, a3, a4) (b1, b2, b3, b4) = u at *
    obtain ⟨u1, u2, u3, u4⟩ := u
    clear hu h
    go_enter Try.func28, Try.ntmps28
    go_wp2_with fail
    refine (union2 _ _ (by simp) _ _ _ _ _ _ _ _ _).mono ?_; rintro e w1 ⟨rfl, hB1⟩; obtain ⟨hc1, hf1⟩ := keep hB1; have hz1 := hB1.size; try simp at hz1
    rw [e2, e3]
    go_wp2_with fail
    go_region_held3 (fun z => z.cell? ⟨w.heap.size, 0, none⟩ = some (.int .i64 a1) ∧ z.cell? ⟨w.heap.size, 1, none⟩ = some (.int .i64 a2) ∧ z.cell? ⟨w.heap.size, 2, none⟩ = some (.int .i64 a3) ∧ z.cell? ⟨w.heap.size, 3, none⟩ = some (.int .i64 a4)
        ∧ z.cell? ⟨w1.heap.size, 0, none⟩ = some (.int .i64 u1) ∧ z.cell? ⟨w1.heap.size, 1, none⟩ = some (.int .i64 u2) ∧ z.cell? ⟨w1.heap.size, 2, none⟩ = some (.int .i64 u3) ∧ z.cell? ⟨w1.heap.size, 3, none⟩ = some (.int .i64 u4)) (simp [*, go_sem])
      (first | (go_at_call 27; refine (area_any _ _ _ _ _).mono ?_; rintro e w' ⟨rfl, hB⟩; obtain ⟨hc, hf⟩ := keep hB; have hz := hB.size; try simp at hz) | (go_at_call 49; refine (wsub_big _ _ g1 g2 _).mono ?_; rintro e w' ⟨rfl, hB⟩; obtain ⟨hc, hf⟩ := keep hB; have hz := hB.size; try simp at hz))
    all_goals
      go_wp2
      exact bodyPost_ret (v := .agg #[.int .u64 (hiOf (areaN (u1, u2, u3, u4) - areaN (a1, a2, a3, a4))), .int .u64 (loOf (areaN (u1, u2, u3, u4) - areaN (a1, a2, a3, a4)))]) (by simp [*, results, Try.results28, go_sem]) rfl ⟨rfl, by (repeat' (first | (with_reducible exact Below.refl _ _) | (with_reducible assumption) | (with_reducible refine Below.alloc ?_ ?_ _) | (with_reducible refine Below.drew ?_) | (with_reducible refine Below.setCell ?_ ?_ _) | (with_reducible refine below_call (by with_reducible assumption) ?_ ?_) | (first | (with_reducible exact Nat.le_refl _) | (with_reducible assumption) | omega | (simp; done) | (simp; omega))))⟩
  · have e1 : growN (a1, a2, a3, a4) (b1, b2, b3, b4) = 0 := by unfold growN; rw [if_neg h]
    rw [e1, show hiOf 0 = 0 from rfl, show loOf 0 = 0 from rfl]; clear e1
    have e2 : (unionE [(a1, a2, a3, a4), (b1, b2, b3, b4)] == 0) = false := by
      rw [unionE2]
      cases h1 : boxB (a1, a2, a3, a4)
      · rw [if_neg (by simp)]; exact codeB_ne h1
      · cases h2 : boxB (b1, b2, b3, b4)
        · rw [if_pos rfl, if_neg (by simp)]; exact codeB_ne h2
        · exact absurd ⟨h1, h2⟩ h
    have e3 := errV_ne e2
    have e4 : unionV [(a1, a2, a3, a4), (b1, b2, b3, b4)] = b40 := by unfold unionV; rw [if_neg (by simpa using e2)]
    clear h e2
    go_enter Try.func28, Try.ntmps28
    go_wp2_with fail
    refine (union2 _ _ (by simp) _ _ _ _ _ _ _ _ _).mono ?_; rintro e w1 ⟨rfl, hB1⟩; obtain ⟨hc1, hf1⟩ := keep hB1; have hz1 := hB1.size; try simp at hz1
    rw [e4, e3]
    go_wp2
    exact bodyPost_ret (v := .agg #[.int .u64 0, .int .u64 0]) (by simp [*, results, Try.results28, go_sem]) rfl ⟨rfl, by (repeat' (first | (with_reducible exact Below.refl _ _) | (with_reducible assumption) | (with_reducible refine Below.alloc ?_ ?_ _) | (with_reducible refine Below.drew ?_) | (with_reducible refine Below.setCell ?_ ?_ _) | (with_reducible refine below_call (by with_reducible assumption) ?_ ?_) | (first | (with_reducible exact Nat.le_refl _) | (with_reducible assumption) | omega | (simp; done) | (simp; omega))))⟩
end Go.Proofs.Ytandehgdmefpaaa
