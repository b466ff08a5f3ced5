/- segm: may, span, On. -/
import Derived.Test.YtocpdphchignpaaCheckPt
import Derived.Test.YtocpdphchignpaaRegionBar
import Derived.Test.YtocpdphchignpaaPlaneB
import Derived.Deep.RegionHeld3
namespace Go.Proofs.Ytocpdphchignpaa
open Go.RowKit

set_option maxHeartbeats 400000 in
theorem smay_any (b n : Nat) (ps : List (Int × Int)) (w : World) (hn : ps.length ≤ n) (hn' : n ≤ ps.length) (hm : n ≤ 1000000) (hb : b < w.heap.size) (hp : PtsAt w b ps) :
    Calls Try.prog 27 #[.slice (some ⟨b, 0, none⟩) n n] w fun e w' => e = .returned (.bool (ps.all okB)) ∧ Below w.heap.size w w' := by
  go_enter Try.func27, Try.ntmps27
  go_wp2
  go_loopw [7] (fun t wr => ∃ k : Nat, k ≤ n ∧ t = .int .i64 k ∧ (ps.take k).all okB = true ∧ Below w.heap.size w wr) (fun t _ => n - (intOf t).toNat)
  case atStart => exact ⟨0, Nat.zero_le _, rfl, by simp, Below.refl _ _⟩
  case round =>
    obtain ⟨k, hk, rfl, ha, hB⟩ := hrel
    by_cases hlt : k < n
    · obtain ⟨hx, hy⟩ := hp k (by omega)
      rw [← hB.cell (p := ⟨b, k * 2, none⟩) hb] at hx
      rw [← hB.cell (p := ⟨b, k * 2 + 1, none⟩) hb] at hy
      have hs := all_take_snoc okB (0, 0) ps k (by omega)
      have hbad := all_of_bad okB (0, 0) ps k (by omega)
      generalize ps.getD k (0, 0) = p at hx hy hs hbad
      obtain ⟨x, y⟩ := p
      dsimp only at hx hy
      have hzz := hB.size
      have HS := Lib.hid hs; have HB := Lib.hid hbad; have HA := Lib.hid ha
      clear hs hbad ha hp
      cases hok : okB (x, y)
      · go_wp2_with fail
        refine (checkPt_no _ _ hok _).mono ?_; rintro e w1 ⟨rfl, hB1⟩; obtain ⟨hc1, hf1⟩ := keep hB1; have hz1 := hB1.size; try simp at hz1
        go_wp2
        go_ret
        exact ⟨by rw [HB.out hok]; rfl, by (repeat' (first | (with_reducible exact Below.refl _ _) | (with_reducible assumption) | (with_reducible refine Below.alloc ?_ ?_ _) | (with_reducible refine Below.drew ?_) | (with_reducible refine Below.setCell ?_ ?_ _) | (with_reducible refine below_call (by with_reducible assumption) ?_ ?_) | (first | (with_reducible exact Nat.le_refl _) | (with_reducible assumption) | omega | (simp; done) | (simp; omega))))⟩
      · go_wp2_with fail
        refine (checkPt_ok _ _ hok _).mono ?_; rintro e w1 ⟨rfl, hB1⟩; obtain ⟨hc1, hf1⟩ := keep hB1; have hz1 := hB1.size; try simp at hz1
        go_wp2
        go_roundw
        case rel => exact ⟨k + 1, by omega, by go_num, by rw [HS.out, HA.out, hok]; rfl, by (repeat' (first | (with_reducible exact Below.refl _ _) | (with_reducible assumption) | (with_reducible refine Below.alloc ?_ ?_ _) | (with_reducible refine Below.drew ?_) | (with_reducible refine Below.setCell ?_ ?_ _) | (with_reducible refine below_call (by with_reducible assumption) ?_ ?_) | (first | (with_reducible exact Nat.le_refl _) | (with_reducible assumption) | omega | (simp; done) | (simp; omega))))⟩
        case measure => simp [intOf] <;> omega
    · go_wp2
      go_ret
      refine ⟨?_, hB⟩
      have hkn : k = n := by omega
      subst hkn
      rw [List.take_of_length_le (by omega)] at ha
      rw [ha]; rfl

def ok4 (a b c d : Int × Int) : Bool := okB a && (okB b && (okB c && okB d))
theorem smay2 (W : World) (b : Nat) (hb : b < W.heap.size) (a1 a2 b1 b2 : Int) (h0 : W.cell? ⟨b, 0, none⟩ = some (.int .i64 a1)) (h1 : W.cell? ⟨b, 1, none⟩ = some (.int .i64 a2)) (h2 : W.cell? ⟨b, 2, none⟩ = some (.int .i64 b1)) (h3 : W.cell? ⟨b, 3, none⟩ = some (.int .i64 b2)) :
    Calls Try.prog 27 #[.slice (some ⟨b, 0, none⟩) 2 2] W fun e w' => e = .returned (.bool (ok2 (a1, a2) (b1, b2))) ∧ Below W.heap.size W w' :=
  (smay_any b 2 [(a1, a2), (b1, b2)] _ (by simp) (by simp) (by simp) hb (by intro i hi; match i, hi with | 0, _ => exact ⟨h0, h1⟩ | 1, _ => exact ⟨h2, h3⟩)).mono fun e w' ⟨he, hB⟩ =>
    ⟨by rw [he]; simp [ok2], hB⟩
theorem smay3 (W : World) (b : Nat) (hb : b < W.heap.size) (a1 a2 b1 b2 c1 c2 : Int) (h0 : W.cell? ⟨b, 0, none⟩ = some (.int .i64 a1)) (h1 : W.cell? ⟨b, 1, none⟩ = some (.int .i64 a2)) (h2 : W.cell? ⟨b, 2, none⟩ = some (.int .i64 b1)) (h3 : W.cell? ⟨b, 3, none⟩ = some (.int .i64 b2)) (h4 : W.cell? ⟨b, 4, none⟩ = some (.int .i64 c1)) (h5 : W.cell? ⟨b, 5, none⟩ = some (.int .i64 c2)) :
    Calls Try.prog 27 #[.slice (some ⟨b, 0, none⟩) 3 3] W fun e w' => e = .returned (.bool (ok3 (a1, a2) (b1, b2) (c1, c2))) ∧ Below W.heap.size W w' :=
  (smay_any b 3 [(a1, a2), (b1, b2), (c1, c2)] _ (by simp) (by simp) (by simp) hb (by intro i hi; match i, hi with | 0, _ => exact ⟨h0, h1⟩ | 1, _ => exact ⟨h2, h3⟩ | 2, _ => exact ⟨h4, h5⟩)).mono fun e w' ⟨he, hB⟩ =>
    ⟨by rw [he]; simp [ok3], hB⟩
theorem smay4 (W : World) (b : Nat) (hb : b < W.heap.size) (a1 a2 b1 b2 c1 c2 d1 d2 : Int) (h0 : W.cell? ⟨b, 0, none⟩ = some (.int .i64 a1)) (h1 : W.cell? ⟨b, 1, none⟩ = some (.int .i64 a2)) (h2 : W.cell? ⟨b, 2, none⟩ = some (.int .i64 b1)) (h3 : W.cell? ⟨b, 3, none⟩ = some (.int .i64 b2)) (h4 : W.cell? ⟨b, 4, none⟩ = some (.int .i64 c1)) (h5 : W.cell? ⟨b, 5, none⟩ = some (.int .i64 c2)) (h6 : W.cell? ⟨b, 6, none⟩ = some (.int .i64 d1)) (h7 : W.cell? ⟨b, 7, none⟩ = some (.int .i64 d2)) :
    Calls Try.prog 27 #[.slice (some ⟨b, 0, none⟩) 4 4] W fun e w' => e = .returned (.bool (ok4 (a1, a2) (b1, b2) (c1, c2) (d1, d2))) ∧ Below W.heap.size W w' :=
  (smay_any b 4 [(a1, a2), (b1, b2), (c1, c2), (d1, d2)] _ (by simp) (by simp) (by simp) hb (by intro i hi; match i, hi with | 0, _ => exact ⟨h0, h1⟩ | 1, _ => exact ⟨h2, h3⟩ | 2, _ => exact ⟨h4, h5⟩ | 3, _ => exact ⟨h6, h7⟩)).mono fun e w' ⟨he, hB⟩ =>
    ⟨by rw [he]; simp [ok4], hB⟩

set_option maxHeartbeats 400000 in
theorem span_any (ax ay bx b_y : Int) (w : World) :
    Calls Try.prog 30 #[.agg #[.int .i64 ax, .int .i64 ay], .agg #[.int .i64 bx, .int .i64 b_y]] w fun e w' => e = .returned (.agg #[.int .i64 (minV ax bx), .int .i64 (minV ay b_y), .int .i64 (maxV ax bx), .int .i64 (maxV ay b_y)]) ∧ Below w.heap.size w w' := by
  have mn : ∀ x y : Int, (if y < x then y else x) = minV x y := fun _ _ => rfl
  have mx : ∀ x y : Int, (if x < y then y else x) = maxV x y := fun _ _ => rfl
  go_enter Try.func30, Try.ntmps30
  go_wp2
  exact bodyPost_ret (v := .agg #[.int .i64 (minV ax bx), .int .i64 (minV ay b_y), .int .i64 (maxV ax bx), .int .i64 (maxV ay b_y)]) (by simp [*, results, Try.results30, go_sem]) rfl ⟨rfl, by (repeat' (first | (with_reducible exact Below.refl _ _) | (with_reducible assumption) | (with_reducible refine Below.alloc ?_ ?_ _) | (with_reducible refine Below.drew ?_) | (with_reducible refine Below.setCell ?_ ?_ _) | (with_reducible refine below_call (by with_reducible assumption) ?_ ?_) | (first | (with_reducible exact Nat.le_refl _) | (with_reducible assumption) | omega | (simp; done) | (simp; omega))))⟩

/-- The product of two steps from a point. -/
def dotV (o a b : Int × Int) : Int := (a.1 - o.1) * (b.1 - o.1) + (a.2 - o.2) * (b.2 - o.2)
theorem dot_bd {x y : Int} (hx : -2147483646 ≤ x ∧ x ≤ 2147483646) (hy : -2147483646 ≤ y ∧ y ≤ 2147483646) : -4611686009837453316 ≤ x * y ∧ x * y ≤ 4611686009837453316 := mul_far x y hx hy
set_option maxHeartbeats 400000 in
theorem sdot_any (ox oy ax ay bx b_y : Int) (ho : okB (ox, oy) = true) (ha : okB (ax, ay) = true) (hb : okB (bx, b_y) = true) (w : World) :
    Calls Try.prog 31 #[.agg #[.int .i64 ox, .int .i64 oy], .agg #[.int .i64 ax, .int .i64 ay], .agg #[.int .i64 bx, .int .i64 b_y]] w fun e w' => e = .returned (.int .i64 (dotV (ox, oy) (ax, ay) (bx, b_y))) ∧ Below w.heap.size w w' := by
  rw [okB_iff] at ho ha hb
  obtain ⟨⟨o1, o2⟩, o3, o4⟩ := ho
  obtain ⟨⟨a1, a2⟩, a3, a4⟩ := ha
  obtain ⟨⟨b1, b2⟩, b3, b4⟩ := hb
  obtain ⟨x1, x2⟩ := dot_bd (x := ax - ox) (y := bx - ox) (by omega) (by omega)
  obtain ⟨y1, y2⟩ := dot_bd (x := ay - oy) (y := b_y - oy) (by omega) (by omega)
  go_enter Try.func31, Try.ntmps31
  go_wp2
  go_ret
  exact ⟨rfl, by (repeat' (first | (with_reducible exact Below.refl _ _) | (with_reducible assumption) | (with_reducible refine Below.alloc ?_ ?_ _) | (with_reducible refine Below.drew ?_) | (with_reducible refine Below.setCell ?_ ?_ _) | (with_reducible refine below_call (by with_reducible assumption) ?_ ?_) | (first | (with_reducible exact Nat.le_refl _) | (with_reducible assumption) | omega | (simp; done) | (simp; omega))))⟩

def onV (a b p : Int × Int) : Bool := ok3 a b p && (decide (crossV a b p = 0) && (decide (minV a.1 b.1 ≤ p.1) && (decide (p.1 ≤ maxV a.1 b.1) && (decide (minV a.2 b.2 ≤ p.2) && decide (p.2 ≤ maxV a.2 b.2)))))
set_option maxHeartbeats 1000000 in
theorem on_any (ax ay bx b_y px py : Int) (w : World) :
    Calls Try.prog 12 #[.agg #[.int .i64 ax, .int .i64 ay], .agg #[.int .i64 bx, .int .i64 b_y], .agg #[.int .i64 px, .int .i64 py]] w fun e w' => e = .returned (.bool (onV (ax, ay) (bx, b_y) (px, py))) ∧ Below w.heap.size w w' := by
  cases h : ok3 (ax, ay) (bx, b_y) (px, py)
  · have hv : onV (ax, ay) (bx, b_y) (px, py) = false := by unfold onV; rw [h]; rfl
    rw [hv]
    go_enter Try.func12, Try.ntmps12
    go_wp2_with fail
    (refine wp_region_bar 3 (by kernel_rfl) (by kernel_rfl) (by kernel_rfl) ?_; change StepsT _ _ _ _ [_, _, _] _; (repeat (first | (refine stepT_val (v := ?_) (by rfl) ?_ ?_; rotate_left; (· (intro z hz; obtain ⟨hc, hf⟩ := keep hz; go_simp; first | done | (with_reducible rfl))); (try simp only [Act.put, List.setIfInBounds_toArray, List.set_cons_zero, List.set_cons_succ])))); refine stepT_end ?_; intro z0 hz0; obtain ⟨hc0, hf0⟩ := keep hz0; have hs0 := hz0.size; try simp at hs0); (refine bar_val (v := ?_) (z' := ?_) (by rfl) (by rfl) ?_ ?_; rotate_left; rotate_left; (· (go_simp; first | done | (with_reducible rfl) | (constructor <;> with_reducible rfl))); (try simp only [Act.put, List.setIfInBounds_toArray, List.set_cons_zero, List.set_cons_succ]); change Steps _ _ _ _ [_, _, _, _, _, _, _, _, _, _, _, _, _, _, _, _] _); ((repeat (first | (refine step_val (v := ?_) (by rfl) ?_ ?_; rotate_left; (· (intro z hz; obtain ⟨hc, hf⟩ := keep hz; go_simp; first | done | (with_reducible rfl))); (try simp only [Act.put, List.setIfInBounds_toArray, List.set_cons_zero, List.set_cons_succ])) | (refine step_skip (by rfl) ?_; (try simp only [Act.put, List.setIfInBounds_toArray, List.set_cons_zero, List.set_cons_succ])) | (refine step_call (v := ?_) (f := ?_) (args := ?_) (by rfl) ?_ ?_ ?_; rotate_left; rotate_left; rotate_left; (· (intro z hz; go_simp; first | done | (with_reducible rfl) | (constructor <;> with_reducible rfl))); (· (intro z hz; first | (go_at_call 27; obtain ⟨hc, hf⟩ := keep hz; have hzz := hz.size; try simp at hzz; refine (smay3 _ _ (by omega) ax ay bx b_y px py (by go_simp) (by go_simp) (by go_simp) (by go_simp) (by go_simp) (by go_simp)).mono ?_; rintro e w' ⟨rfl, hB⟩; refine ⟨?_, hz.trans (hB.mono hz.size)⟩; with_reducible rfl))); (try simp only [Act.put, List.setIfInBounds_toArray, List.set_cons_zero, List.set_cons_succ])))); refine steps_end ?_; intro w' hB; obtain ⟨hc, hf⟩ := keep hB; have hz := hB.size; try simp at hz)
    all_goals (go_wp2; go_ret; exact ⟨rfl, by (repeat' (first | (with_reducible exact Below.refl _ _) | (with_reducible assumption) | (with_reducible refine Below.alloc ?_ ?_ _) | (with_reducible refine Below.drew ?_) | (with_reducible refine Below.setCell ?_ ?_ _) | (with_reducible refine below_call (by with_reducible assumption) ?_ ?_) | (first | (with_reducible exact Nat.le_refl _) | (with_reducible assumption) | omega | (simp; done) | (simp; omega))))⟩)
  · cases hO : (cmpV (crossV (ax, ay) (bx, b_y) (px, py)) 0 == 0)
    · have hz : ¬ crossV (ax, ay) (bx, b_y) (px, py) = 0 := by
        intro hz; rw [hz] at hO; exact absurd hO (by decide)
      have hv : onV (ax, ay) (bx, b_y) (px, py) = false := by unfold onV; simp [hz]
      rw [hv]
      clear hz hv
      go_enter Try.func12, Try.ntmps12
      go_wp2_with fail
      (refine wp_region_bar 3 (by kernel_rfl) (by kernel_rfl) (by kernel_rfl) ?_; change StepsT _ _ _ _ [_, _, _] _; (repeat (first | (refine stepT_val (v := ?_) (by rfl) ?_ ?_; rotate_left; (· (intro z hz; obtain ⟨hc, hf⟩ := keep hz; go_simp; first | done | (with_reducible rfl))); (try simp only [Act.put, List.setIfInBounds_toArray, List.set_cons_zero, List.set_cons_succ])))); refine stepT_end ?_; intro z0 hz0; obtain ⟨hc0, hf0⟩ := keep hz0; have hs0 := hz0.size; try simp at hs0); (refine bar_val (v := ?_) (z' := ?_) (by rfl) (by rfl) ?_ ?_; rotate_left; rotate_left; (· (go_simp; first | done | (with_reducible rfl) | (constructor <;> with_reducible rfl))); (try simp only [Act.put, List.setIfInBounds_toArray, List.set_cons_zero, List.set_cons_succ]); change Steps _ _ _ _ [_, _, _, _, _, _, _, _, _, _, _, _, _, _, _, _] _); ((repeat (first | (refine step_val (v := ?_) (by rfl) ?_ ?_; rotate_left; (· (intro z hz; obtain ⟨hc, hf⟩ := keep hz; go_simp; first | done | (with_reducible rfl))); (try simp only [Act.put, List.setIfInBounds_toArray, List.set_cons_zero, List.set_cons_succ])) | (refine step_skip (by rfl) ?_; (try simp only [Act.put, List.setIfInBounds_toArray, List.set_cons_zero, List.set_cons_succ])) | (refine step_call (v := ?_) (f := ?_) (args := ?_) (by rfl) ?_ ?_ ?_; rotate_left; rotate_left; rotate_left; (· (intro z hz; go_simp; first | done | (with_reducible rfl) | (constructor <;> with_reducible rfl))); (· (intro z hz; first | (go_at_call 27; obtain ⟨hc, hf⟩ := keep hz; have hzz := hz.size; try simp at hzz; refine (smay3 _ _ (by omega) ax ay bx b_y px py (by go_simp) (by go_simp) (by go_simp) (by go_simp) (by go_simp) (by go_simp)).mono ?_; rintro e w' ⟨rfl, hB⟩; refine ⟨?_, hz.trans (hB.mono hz.size)⟩; with_reducible rfl) | (go_at_call 28; refine (orient_any _ _ _ _ _ _ _).mono ?_; rintro e w' ⟨rfl, hB⟩; refine ⟨?_, hz.trans (hB.mono hz.size)⟩; with_reducible rfl) | (go_at_call 30; refine (span_any _ _ _ _ _).mono ?_; rintro e w' ⟨rfl, hB⟩; refine ⟨?_, hz.trans (hB.mono hz.size)⟩; with_reducible rfl) | (go_at_call 29; refine (has_any _ _ _ _ _ _ _).mono ?_; rintro e w' ⟨rfl, hB⟩; refine ⟨?_, hz.trans (hB.mono hz.size)⟩; with_reducible rfl))); (try simp only [Act.put, List.setIfInBounds_toArray, List.set_cons_zero, List.set_cons_succ])))); refine steps_end ?_; intro w' hB; obtain ⟨hc, hf⟩ := keep hB; have hz := hB.size; try simp at hz)
      all_goals (go_wp2; go_ret; exact ⟨rfl, by (repeat' (first | (with_reducible exact Below.refl _ _) | (with_reducible assumption) | (with_reducible refine Below.alloc ?_ ?_ _) | (with_reducible refine Below.drew ?_) | (with_reducible refine Below.setCell ?_ ?_ _) | (with_reducible refine below_call (by with_reducible assumption) ?_ ?_) | (first | (with_reducible exact Nat.le_refl _) | (with_reducible assumption) | omega | (simp; done) | (simp; omega))))⟩)
    · have hz : crossV (ax, ay) (bx, b_y) (px, py) = 0 := by
        have h1 : cmpV (crossV (ax, ay) (bx, b_y) (px, py)) 0 = 0 := by simpa using hO
        unfold cmpV at h1; omega
      have hv : onV (ax, ay) (bx, b_y) (px, py) = hasB (minV ax bx) (minV ay b_y) (maxV ax bx) (maxV ay b_y) px py := by
        have h3 := h
        rw [ok3_iff] at h3
        obtain ⟨k1, k2, k3⟩ := h3
        unfold onV hasB
        rw [k3, h, hz]
        have hb : boxB (minV ax bx, minV ay b_y, maxV ax bx, maxV ay b_y) = true := by
          rw [boxB_iff, okB_iff, okB_iff]; rw [okB_iff] at k1 k2; unfold minV maxV; omega
        rw [hb]; simp
      rw [hv]
      clear hz hv
      go_enter Try.func12, Try.ntmps12
      go_wp2_with fail
      (refine wp_region_bar 3 (by kernel_rfl) (by kernel_rfl) (by kernel_rfl) ?_; change StepsT _ _ _ _ [_, _, _] _; (repeat (first | (refine stepT_val (v := ?_) (by rfl) ?_ ?_; rotate_left; (· (intro z hz; obtain ⟨hc, hf⟩ := keep hz; go_simp; first | done | (with_reducible rfl))); (try simp only [Act.put, List.setIfInBounds_toArray, List.set_cons_zero, List.set_cons_succ])))); refine stepT_end ?_; intro z0 hz0; obtain ⟨hc0, hf0⟩ := keep hz0; have hs0 := hz0.size; try simp at hs0); (refine bar_val (v := ?_) (z' := ?_) (by rfl) (by rfl) ?_ ?_; rotate_left; rotate_left; (· (go_simp; first | done | (with_reducible rfl) | (constructor <;> with_reducible rfl))); (try simp only [Act.put, List.setIfInBounds_toArray, List.set_cons_zero, List.set_cons_succ]); change Steps _ _ _ _ [_, _, _, _, _, _, _, _, _, _, _, _, _, _, _, _] _); ((repeat (first | (refine step_val (v := ?_) (by rfl) ?_ ?_; rotate_left; (· (intro z hz; obtain ⟨hc, hf⟩ := keep hz; go_simp; first | done | (with_reducible rfl))); (try simp only [Act.put, List.setIfInBounds_toArray, List.set_cons_zero, List.set_cons_succ])) | (refine step_skip (by rfl) ?_; (try simp only [Act.put, List.setIfInBounds_toArray, List.set_cons_zero, List.set_cons_succ])) | (refine step_call (v := ?_) (f := ?_) (args := ?_) (by rfl) ?_ ?_ ?_; rotate_left; rotate_left; rotate_left; (· (intro z hz; go_simp; first | done | (with_reducible rfl) | (constructor <;> with_reducible rfl))); (· (intro z hz; first | (go_at_call 27; obtain ⟨hc, hf⟩ := keep hz; have hzz := hz.size; try simp at hzz; refine (smay3 _ _ (by omega) ax ay bx b_y px py (by go_simp) (by go_simp) (by go_simp) (by go_simp) (by go_simp) (by go_simp)).mono ?_; rintro e w' ⟨rfl, hB⟩; refine ⟨?_, hz.trans (hB.mono hz.size)⟩; with_reducible rfl) | (go_at_call 28; refine (orient_any _ _ _ _ _ _ _).mono ?_; rintro e w' ⟨rfl, hB⟩; refine ⟨?_, hz.trans (hB.mono hz.size)⟩; with_reducible rfl) | (go_at_call 30; refine (span_any _ _ _ _ _).mono ?_; rintro e w' ⟨rfl, hB⟩; refine ⟨?_, hz.trans (hB.mono hz.size)⟩; with_reducible rfl) | (go_at_call 29; refine (has_any _ _ _ _ _ _ _).mono ?_; rintro e w' ⟨rfl, hB⟩; refine ⟨?_, hz.trans (hB.mono hz.size)⟩; with_reducible rfl))); (try simp only [Act.put, List.setIfInBounds_toArray, List.set_cons_zero, List.set_cons_succ])))); refine steps_end ?_; intro w' hB; obtain ⟨hc, hf⟩ := keep hB; have hz := hB.size; try simp at hz)
      all_goals (go_wp2; go_ret; exact ⟨rfl, by (repeat' (first | (with_reducible exact Below.refl _ _) | (with_reducible assumption) | (with_reducible refine Below.alloc ?_ ?_ _) | (with_reducible refine Below.drew ?_) | (with_reducible refine Below.setCell ?_ ?_ _) | (with_reducible refine below_call (by with_reducible assumption) ?_ ?_) | (first | (with_reducible exact Nat.le_refl _) | (with_reducible assumption) | omega | (simp; done) | (simp; omega))))⟩)
end Go.Proofs.Ytocpdphchignpaa
