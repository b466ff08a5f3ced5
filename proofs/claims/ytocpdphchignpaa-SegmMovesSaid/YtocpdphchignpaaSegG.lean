/- pergolaref3.MeetsBox. -/
import Derived.Test.YtocpdphchignpaaSegF
namespace Go.Proofs.Ytocpdphchignpaa
open Go.RowKit

/-- The first k sides are not met. -/
def NoSide (a b : Int × Int) (lx ly hx hy : Int) (k : Nat) : Prop := ∀ i, i < k → sideV a b lx ly hx hy i = false
theorem NoSide.succ {a b : Int × Int} {lx ly hx hy : Int} {k : Nat} (h : NoSide a b lx ly hx hy k) (hk : sideV a b lx ly hx hy k = false) : NoSide a b lx ly hx hy (k + 1) := by
  intro i hi
  rcases Nat.lt_or_ge i k with h' | h'
  · exact h i h'
  · have : i = k := by omega
    subst this; exact hk
theorem NoSide.all {a b : Int × Int} {lx ly hx hy : Int} (h : NoSide a b lx ly hx hy 4) : sidesV a b lx ly hx hy = false := by
  unfold sidesV; rw [h 0 (by omega), h 1 (by omega), h 2 (by omega), h 3 (by omega)]; rfl
theorem sides_one {a b : Int × Int} {lx ly hx hy : Int} {k : Nat} (hk : k < 4) (h : sideV a b lx ly hx hy k = true) : sidesV a b lx ly hx hy = true := by
  unfold sidesV
  match k, hk with
  | 0, _ => rw [h]; rfl
  | 1, _ => rw [h]; simp
  | 2, _ => rw [h]; simp
  | 3, _ => rw [h]; simp

set_option maxRecDepth 100000 in
set_option maxHeartbeats 1000000 in
theorem rmeetsBox_in (ax ay bx b_y lx ly hx hy : Int) (ha : okB (ax, ay) = true) (hb : okB (bx, b_y) = true) (hbox : boxB (lx, ly, hx, hy) = true) (hA : hasB lx ly hx hy ax ay = false) (hC : hasB lx ly hx hy bx b_y = false) (w : World) :
    Calls Try.prog 23 #[.agg #[.int .i64 ax, .int .i64 ay], .agg #[.int .i64 bx, .int .i64 b_y], .agg #[.int .i64 lx, .int .i64 ly, .int .i64 hx, .int .i64 hy]] w fun e w' => e = .returned (.bool (sidesV (ax, ay) (bx, b_y) lx ly hx hy)) ∧ Below w.heap.size w w' := by
  have hcz : boxCode lx ly hx hy = 0 := by rw [boxB_code] at hbox; simpa using hbox
  go_enter Try.func23, Try.ntmps23
  go_wp2_with fail
  refine (point_any _ _ _).mono ?_; rintro e w1 ⟨rfl, hB1⟩; obtain ⟨hc1, hf1⟩ := keep hB1; have hz1 := hB1.size; try simp at hz1
  go_wp2_with fail
  refine (point_any _ _ _).mono ?_; rintro e w2 ⟨rfl, hB2⟩; obtain ⟨hc2, hf2⟩ := keep hB2; have hz2 := hB2.size; try simp at hz2
  go_wp2_with fail
  refine (rcheckBox_any _ _ _ _ _).mono ?_; rintro e w3 ⟨rfl, hB3⟩; obtain ⟨hc3, hf3⟩ := keep hB3; have hz3 := hB3.size; try simp at hz3
  go_wp2_with fail
  refine (rhas_any _ _ _ _ _ _ _).mono ?_; rintro e w4 ⟨rfl, hB4⟩; obtain ⟨hc4, hf4⟩ := keep hB4; have hz4 := hB4.size; try simp at hz4
  go_wp2_with fail
  refine (rhas_any _ _ _ _ _ _ _).mono ?_; rintro e w5 ⟨rfl, hB5⟩; obtain ⟨hc5, hf5⟩ := keep hB5; have hz5 := hB5.size; try simp at hz5
  go_wp2_with fail
  refine (corners_any lx ly hx hy _).mono ?_
  rintro e w6 ⟨rfl, hB6, hs6, hx6, hy6⟩
  have hl : w.heap.size + 1 + 1 + 1 ≤ w5.heap.size := by omega
  have c0 : w6.cell? ⟨w.heap.size, 0, none⟩ = some (.int .i64 ax) := by rw [hB6.cell (p := ⟨w.heap.size, 0, none⟩) (by simp; omega)]; go_simp
  have c1 : w6.cell? ⟨w.heap.size, 1, none⟩ = some (.int .i64 ay) := by rw [hB6.cell (p := ⟨w.heap.size, 1, none⟩) (by simp; omega)]; go_simp
  have c2 : w6.cell? ⟨w.heap.size + 1, 0, none⟩ = some (.int .i64 bx) := by rw [hB6.cell (p := ⟨w.heap.size + 1, 0, none⟩) (by simp; omega)]; go_simp
  have c3 : w6.cell? ⟨w.heap.size + 1, 1, none⟩ = some (.int .i64 b_y) := by rw [hB6.cell (p := ⟨w.heap.size + 1, 1, none⟩) (by simp; omega)]; go_simp
  have hz6 := hB6.size
  have hBw : Below w.heap.size w w6 := by
    have h5 : Below w.heap.size w w5 := by (repeat' (first | (with_reducible exact Below.refl _ _) | (with_reducible assumption) | (with_reducible refine Below.alloc ?_ ?_ _) | (with_reducible refine Below.drew ?_) | (with_reducible refine Below.setCell ?_ ?_ _) | (with_reducible refine below_call (by with_reducible assumption) ?_ ?_) | (first | (with_reducible exact Nat.le_refl _) | (with_reducible assumption) | omega | (simp; done) | (simp; omega))))
    exact h5.trans (hB6.mono (by omega))
  clear hc1 hf1 hc2 hf2 hc3 hf3 hc4 hf4 hc5 hf5 hB1 hB2 hB3 hB4 hB5 hB6 hz1 hz2 hz3 hz4 hz5
  generalize w5.heap.size + 1 = g at *
  go_wp2_with fail
  go_loopw [8] (fun t wr => ∃ k : Nat, k ≤ 4 ∧ t = .int .i64 k ∧ NoSide (ax, ay) (bx, b_y) lx ly hx hy k ∧ Below w6.heap.size w6 wr) (fun t _ => 4 - (intOf t).toNat)
  case atStart => exact ⟨0, by omega, rfl, fun i hi => absurd hi (by omega), Below.refl _ _⟩
  case round =>
    obtain ⟨k, hk, rfl, hno, hB⟩ := hrel
    have hzB := hB.size
    by_cases hk4 : k < 4
    · have d0 := hx6 k hk4
      have d1 := hy6 k hk4
      have d2 := hx6 ((k + 1) % 4) (by omega)
      have d3 := hy6 ((k + 1) % 4) (by omega)
      rw [← hB.cell (p := ⟨w.heap.size, 0, none⟩) (by simp; omega)] at c0
      rw [← hB.cell (p := ⟨w.heap.size, 1, none⟩) (by simp; omega)] at c1
      rw [← hB.cell (p := ⟨w.heap.size + 1, 0, none⟩) (by simp; omega)] at c2
      rw [← hB.cell (p := ⟨w.heap.size + 1, 1, none⟩) (by simp; omega)] at c3
      rw [← hB.cell (p := ⟨g, k * 2, none⟩) (by simp; omega)] at d0
      rw [← hB.cell (p := ⟨g, k * 2 + 1, none⟩) (by simp; omega)] at d1
      rw [← hB.cell (p := ⟨g, (k + 1) % 4 * 2, none⟩) (by simp; omega)] at d2
      rw [← hB.cell (p := ⟨g, (k + 1) % 4 * 2 + 1, none⟩) (by simp; omega)] at d3
      have hsd : sideV (ax, ay) (bx, b_y) lx ly hx hy k = meetV (ax, ay) (bx, b_y) (cornX lx hx k, cornY ly hy k) (cornX lx hx ((k + 1) % 4), cornY ly hy ((k + 1) % 4)) := rfl
      have HM := fun w => rmeet_any ax ay bx b_y (cornX lx hx k) (cornY ly hy k) (cornX lx hx ((k + 1) % 4)) (cornY ly hy ((k + 1) % 4)) w
      rw [← hsd] at HM
      generalize cornX lx hx k = x1 at *
      generalize cornY ly hy k = y1 at *
      generalize cornX lx hx ((k + 1) % 4) = x2 at *
      generalize cornY ly hy ((k + 1) % 4) = y2 at *
      have HN := Lib.hid hno
      clear hsd hno hx6 hy6
      have em : ((k : Int) + 1).tmod 4 = (((k + 1) % 4 : Nat) : Int) := by rw [Int.tmod_eq_emod_of_nonneg (by omega)]; omega
      have em2 : ((k : Int) + 1) % 4 = (((k + 1) % 4 : Nat) : Int) := by omega
      have ew : IntKind.i64.wrap ((k : Int) + 1) = (k : Int) + 1 := IntWalk.i64_in _ (by omega)
      have ew2 : IntKind.i64.wrap (((k + 1) % 4 : Nat) : Int) = (((k + 1) % 4 : Nat) : Int) := IntWalk.i64_in _ (by omega)
      have hj : (k + 1) % 4 < 4 := by omega
      generalize (k + 1) % 4 = j at *
      have hjI : ((j : Nat) : Int) < 4 := by omega
      cases hs : sideV (ax, ay) (bx, b_y) lx ly hx hy k
      · rw [hs] at HM
        have HS := Lib.hid hs; clear hs
        go_wp2_with fail
        (refine wp_region_text (by kernel_rfl) (by kernel_rfl) ?_; (repeat (first | (refine step_val (v := ?_) (by rfl) ?_ ?_; rotate_left; (· (intro z hz; obtain ⟨hc, hf⟩ := keep hz; go_simp; first | done | (with_reducible rfl))); (try simp only [Act.put, List.setIfInBounds_toArray, List.set_cons_zero, List.set_cons_succ])) | (refine step_skip (by rfl) ?_; (try simp only [Act.put, List.setIfInBounds_toArray, List.set_cons_zero, List.set_cons_succ])) | (refine step_call (v := ?_) (f := ?_) (args := ?_) (by rfl) ?_ ?_ ?_; rotate_left; rotate_left; rotate_left; (· (intro z hz; go_simp; first | done | (with_reducible rfl) | (constructor <;> with_reducible rfl))); (· (intro z hz; first | (go_at_call 20; refine (HM _).mono ?_; rintro e w' ⟨rfl, hB⟩; refine ⟨?_, hz.trans (hB.mono hz.size)⟩; with_reducible rfl))); (try simp only [Act.put, List.setIfInBounds_toArray, List.set_cons_zero, List.set_cons_succ])))); refine steps_end ?_; intro w' hB; obtain ⟨hc, hf⟩ := keep hB; have hz := hB.size; try simp at hz)
        go_wp2
        go_roundw
        case rel => exact ⟨k + 1, by omega, by go_num, HN.out.succ HS.out, by (repeat' (first | (with_reducible exact Below.refl _ _) | (with_reducible assumption) | (with_reducible refine Below.alloc ?_ ?_ _) | (with_reducible refine Below.drew ?_) | (with_reducible refine Below.setCell ?_ ?_ _) | (with_reducible refine below_call (by with_reducible assumption) ?_ ?_) | (first | (with_reducible exact Nat.le_refl _) | (with_reducible assumption) | omega | (simp; done) | (simp; omega))))⟩
        case measure => simp [intOf] <;> omega
      · have hv := sides_one hk4 hs
        rw [hs] at HM
        have HV := Lib.hid hv; clear hv hs
        go_wp2_with fail
        (refine wp_region_text (by kernel_rfl) (by kernel_rfl) ?_; (repeat (first | (refine step_val (v := ?_) (by rfl) ?_ ?_; rotate_left; (· (intro z hz; obtain ⟨hc, hf⟩ := keep hz; go_simp; first | done | (with_reducible rfl))); (try simp only [Act.put, List.setIfInBounds_toArray, List.set_cons_zero, List.set_cons_succ])) | (refine step_skip (by rfl) ?_; (try simp only [Act.put, List.setIfInBounds_toArray, List.set_cons_zero, List.set_cons_succ])) | (refine step_call (v := ?_) (f := ?_) (args := ?_) (by rfl) ?_ ?_ ?_; rotate_left; rotate_left; rotate_left; (· (intro z hz; go_simp; first | done | (with_reducible rfl) | (constructor <;> with_reducible rfl))); (· (intro z hz; first | (go_at_call 20; refine (HM _).mono ?_; rintro e w' ⟨rfl, hB⟩; refine ⟨?_, hz.trans (hB.mono hz.size)⟩; with_reducible rfl))); (try simp only [Act.put, List.setIfInBounds_toArray, List.set_cons_zero, List.set_cons_succ])))); refine steps_end ?_; intro w' hB; obtain ⟨hc, hf⟩ := keep hB; have hz := hB.size; try simp at hz)
        go_wp2
        go_ret
        refine ⟨by rw [HV.out]; rfl, ?_⟩
        have h7 : Below w6.heap.size w6 w' := by (repeat' (first | (with_reducible exact Below.refl _ _) | (with_reducible assumption) | (with_reducible refine Below.alloc ?_ ?_ _) | (with_reducible refine Below.drew ?_) | (with_reducible refine Below.setCell ?_ ?_ _) | (with_reducible refine below_call (by with_reducible assumption) ?_ ?_) | (first | (with_reducible exact Nat.le_refl _) | (with_reducible assumption) | omega | (simp; done) | (simp; omega))))
        exact hBw.trans (h7.mono (by omega))
    · have e4 : k = 4 := by omega
      have hv : sidesV (ax, ay) (bx, b_y) lx ly hx hy = false := (show NoSide (ax, ay) (bx, b_y) lx ly hx hy 4 by rw [← e4]; exact hno).all
      have HV := Lib.hid hv
      have hkI : ¬ (k : Int) < 4 := by omega
      clear hno hv e4 hx6 hy6
      go_wp2
      go_ret
      exact ⟨by rw [HV.out]; rfl, hBw.trans (hB.mono (by omega))⟩

set_option maxRecDepth 100000 in
set_option maxHeartbeats 1000000 in
theorem rmeetsBox_any (ax ay bx b_y lx ly hx hy : Int) (w : World) :
    Calls Try.prog 23 #[.agg #[.int .i64 ax, .int .i64 ay], .agg #[.int .i64 bx, .int .i64 b_y], .agg #[.int .i64 lx, .int .i64 ly, .int .i64 hx, .int .i64 hy]] w fun e w' => e = .returned (.bool (meetsBoxV (ax, ay) (bx, b_y) lx ly hx hy)) ∧ Below w.heap.size w w' := by
  rw [meetsBox_sides]
  have hcode := boxB_code (lx, ly, hx, hy)
  simp only at hcode
  cases ha : okB (ax, ay) <;> cases hb : okB (bx, b_y) <;> cases hbox : boxB (lx, ly, hx, hy)
  case true.true.true =>
    rw [hbox] at hcode
    have hcz : boxCode lx ly hx hy = 0 := by simpa using hcode
    cases hA : hasB lx ly hx hy ax ay
    · cases hC : hasB lx ly hx hy bx b_y
      · exact rmeetsBox_in ax ay bx b_y lx ly hx hy ha hb hbox hA hC w
      · clear hcode
        go_enter Try.func23, Try.ntmps23
        go_wp2_with (first | (go_at_call 15; refine (point_any _ _ _).mono ?_; rintro e w' ⟨rfl, hB⟩; obtain ⟨hc, hf⟩ := keep hB; have hz := hB.size; try simp at hz) | (go_at_call 25; refine (rcheckBox_any _ _ _ _ _).mono ?_; rintro e w' ⟨rfl, hB⟩; obtain ⟨hc, hf⟩ := keep hB; have hz := hB.size; try simp at hz) | (go_at_call 26; refine (rhas_any _ _ _ _ _ _ _).mono ?_; rintro e w' ⟨rfl, hB⟩; obtain ⟨hc, hf⟩ := keep hB; have hz := hB.size; try simp at hz))
        go_ret
        exact ⟨rfl, by (repeat' (first | (with_reducible exact Below.refl _ _) | (with_reducible assumption) | (with_reducible refine Below.alloc ?_ ?_ _) | (with_reducible refine Below.drew ?_) | (with_reducible refine Below.setCell ?_ ?_ _) | (with_reducible refine below_call (by with_reducible assumption) ?_ ?_) | (first | (with_reducible exact Nat.le_refl _) | (with_reducible assumption) | omega | (simp; done) | (simp; omega))))⟩
    · clear hcode
      go_enter Try.func23, Try.ntmps23
      go_wp2_with (first | (go_at_call 15; refine (point_any _ _ _).mono ?_; rintro e w' ⟨rfl, hB⟩; obtain ⟨hc, hf⟩ := keep hB; have hz := hB.size; try simp at hz) | (go_at_call 25; refine (rcheckBox_any _ _ _ _ _).mono ?_; rintro e w' ⟨rfl, hB⟩; obtain ⟨hc, hf⟩ := keep hB; have hz := hB.size; try simp at hz) | (go_at_call 26; refine (rhas_any _ _ _ _ _ _ _).mono ?_; rintro e w' ⟨rfl, hB⟩; obtain ⟨hc, hf⟩ := keep hB; have hz := hB.size; try simp at hz))
      go_ret
      exact ⟨rfl, by (repeat' (first | (with_reducible exact Below.refl _ _) | (with_reducible assumption) | (with_reducible refine Below.alloc ?_ ?_ _) | (with_reducible refine Below.drew ?_) | (with_reducible refine Below.setCell ?_ ?_ _) | (with_reducible refine below_call (by with_reducible assumption) ?_ ?_) | (first | (with_reducible exact Nat.le_refl _) | (with_reducible assumption) | omega | (simp; done) | (simp; omega))))⟩
  all_goals
    rw [hbox] at hcode
    have hcz := hcode
    simp at hcz
    clear hcode
    go_enter Try.func23, Try.ntmps23
    go_wp2_with (first | (go_at_call 15; refine (point_any _ _ _).mono ?_; rintro e w' ⟨rfl, hB⟩; obtain ⟨hc, hf⟩ := keep hB; have hz := hB.size; try simp at hz) | (go_at_call 25; refine (rcheckBox_any _ _ _ _ _).mono ?_; rintro e w' ⟨rfl, hB⟩; obtain ⟨hc, hf⟩ := keep hB; have hz := hB.size; try simp at hz) | (go_at_call 26; refine (rhas_any _ _ _ _ _ _ _).mono ?_; rintro e w' ⟨rfl, hB⟩; obtain ⟨hc, hf⟩ := keep hB; have hz := hB.size; try simp at hz))
    go_ret
    exact ⟨rfl, by (repeat' (first | (with_reducible exact Below.refl _ _) | (with_reducible assumption) | (with_reducible refine Below.alloc ?_ ?_ _) | (with_reducible refine Below.drew ?_) | (with_reducible refine Below.setCell ?_ ?_ _) | (with_reducible refine below_call (by with_reducible assumption) ?_ ?_) | (first | (with_reducible exact Nat.le_refl _) | (with_reducible assumption) | omega | (simp; done) | (simp; omega))))⟩
end Go.Proofs.Ytocpdphchignpaa
