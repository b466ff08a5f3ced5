/- SegmBoxes: a segment meets a box just if it meets one of its sides, or has an end in it; a box of one point just if that is on it. For every two points and every box; no condition. -/
import Derived.Test.YtocpdphchignpaaL4Awake
import Derived.Test.YtocpdphchignpaaOpenPt
import Derived.BigGuardPart
namespace Go.Proofs.Ytocpdphchignpaa
open Go.ChangeShapes Go.WideShapes Go.ChangeAt Go.RowKit

/-- What has been met after k sides. -/
def metV (a b : Int × Int) (lx ly hx hy : Int) (y0 : Bool) : Nat → Bool
  | 0 => y0
  | k + 1 => metV a b lx ly hx hy y0 k || sideV a b lx ly hx hy k
theorem metV_all (a b : Int × Int) (lx ly hx hy : Int) (y0 : Bool) : metV a b lx ly hx hy y0 4 = (y0 || sidesV a b lx ly hx hy) := by
  simp [metV, sidesV, Bool.or_assoc]

/-- Two points and a box in three blocks from g on, the corners in block g' . -/
structure B3 (g g' : Nat) (ax ay bx b_y lx ly hx hy : Int) (w : World) : Prop where
  size : g + 3 ≤ g'
  lt : g' < w.heap.size
  a1 : w.cell? ⟨g, 0, none⟩ = some (.int .i64 ax)
  a2 : w.cell? ⟨g, 1, none⟩ = some (.int .i64 ay)
  b1 : w.cell? ⟨g + 1, 0, none⟩ = some (.int .i64 bx)
  b2 : w.cell? ⟨g + 1, 1, none⟩ = some (.int .i64 b_y)
  r1 : w.cell? ⟨g + 1 + 1, 0, none⟩ = some (.int .i64 lx)
  r2 : w.cell? ⟨g + 1 + 1, 1, none⟩ = some (.int .i64 ly)
  r3 : w.cell? ⟨g + 1 + 1, 2, none⟩ = some (.int .i64 hx)
  r4 : w.cell? ⟨g + 1 + 1, 3, none⟩ = some (.int .i64 hy)
  cx : ∀ i, i < 4 → w.cell? ⟨g', i * 2, none⟩ = some (.int .i64 (cornX lx hx i))
  cy : ∀ i, i < 4 → w.cell? ⟨g', i * 2 + 1, none⟩ = some (.int .i64 (cornY ly hy i))
theorem B3.keep {g g' : Nat} {ax ay bx b_y lx ly hx hy : Int} {w w' : World} (h : B3 g g' ax ay bx b_y lx ly hx hy w) (hB : Below w.heap.size w w') : B3 g g' ax ay bx b_y lx ly hx hy w' := by
  have hs := h.size
  have hl := h.lt
  have k : ∀ b o, b ≤ g' → w'.cell? ⟨b, o, none⟩ = w.cell? ⟨b, o, none⟩ := fun b o hb => hB.cell (p := ⟨b, o, none⟩) (by simp; omega)
  refine ⟨hs, Nat.lt_of_lt_of_le hl hB.size, ?_, ?_, ?_, ?_, ?_, ?_, ?_, ?_, fun i hi => ?_, fun i hi => ?_⟩
  · rw [k _ _ (by omega)]; exact h.a1
  · rw [k _ _ (by omega)]; exact h.a2
  · rw [k _ _ (by omega)]; exact h.b1
  · rw [k _ _ (by omega)]; exact h.b2
  · rw [k _ _ (by omega)]; exact h.r1
  · rw [k _ _ (by omega)]; exact h.r2
  · rw [k _ _ (by omega)]; exact h.r3
  · rw [k _ _ (by omega)]; exact h.r4
  · rw [k _ _ (by omega)]; exact h.cx i hi
  · rw [k _ _ (by omega)]; exact h.cy i hi

set_option maxRecDepth 100000 in
set_option maxHeartbeats 4000000 in
theorem boxes_in (ax ay bx b_y lx ly hx hy : Int) (ha : okB (ax, ay) = true) (hb : okB (bx, b_y) = true) (hbox : boxB (lx, ly, hx, hy) = true) (w : World) :
    Calls Try.prog 9 #[.agg #[.int .i64 ax, .int .i64 ay], .agg #[.int .i64 bx, .int .i64 b_y], .agg #[.int .i64 lx, .int .i64 ly, .int .i64 hx, .int .i64 hy]] w fun e w' => e = .returned (.bool true) ∧ Below w.heap.size w w' := by
  have hcz : boxCode lx ly hx hy = 0 := by rw [boxB_code] at hbox; simpa using hbox
  go_enter Try.func9, Try.ntmps9
  go_wp2_with fail
  refine (meetsBox_any _ _ _ _ _ _ _ _ _).mono ?_; rintro e w1 ⟨rfl, hB1⟩; obtain ⟨hc1, hf1⟩ := keep hB1; have hz1 := hB1.size; try simp at hz1
  go_wp2_with fail
  refine (rcheckBox_any _ _ _ _ _).mono ?_; rintro e w2 ⟨rfl, hB2⟩; obtain ⟨hc2, hf2⟩ := keep hB2; have hz2 := hB2.size; try simp at hz2
  go_wp2_with fail
  refine (point_any _ _ _).mono ?_; rintro e w3 ⟨rfl, hB3⟩; obtain ⟨hc3, hf3⟩ := keep hB3; have hz3 := hB3.size; try simp at hz3
  go_wp2_with fail
  refine (point_any _ _ _).mono ?_; rintro e w4 ⟨rfl, hB4⟩; obtain ⟨hc4, hf4⟩ := keep hB4; have hz4 := hB4.size; try simp at hz4
  go_wp2_with fail
  refine (rhas_any _ _ _ _ _ _ _).mono ?_; rintro e w5 ⟨rfl, hB5⟩; obtain ⟨hc5, hf5⟩ := keep hB5; have hz5 := hB5.size; try simp at hz5
  have hq : B3 w.heap.size w4.heap.size ax ay bx b_y lx ly hx hy w5 := by
    refine ⟨by omega, by omega, by go_simp, by go_simp, by go_simp, by go_simp, by go_simp, by go_simp, by go_simp, by go_simp, fun i hi => ?_, fun i hi => ?_⟩
    · match i, hi with
      | 0, _ => go_simp; rfl
      | 1, _ => go_simp; rfl
      | 2, _ => go_simp; rfl
      | 3, _ => go_simp; rfl
    · match i, hi with
      | 0, _ => go_simp; rfl
      | 1, _ => go_simp; rfl
      | 2, _ => go_simp; rfl
      | 3, _ => go_simp; rfl
  have hBw : Below w.heap.size w w5 := by (repeat' (first | (with_reducible exact Below.refl _ _) | (with_reducible assumption) | (with_reducible refine Below.alloc ?_ ?_ _) | (with_reducible refine Below.drew ?_) | (with_reducible refine Below.setCell ?_ ?_ _) | (with_reducible refine below_call (by with_reducible assumption) ?_ ?_) | (first | (with_reducible exact Nat.le_refl _) | (with_reducible assumption) | omega | (simp; done) | (simp; omega))))
  clear hc1 hf1 hc2 hf2 hc3 hf3 hc4 hf4 hc5 hf5 hB1 hB2 hB3 hB4 hB5 hz1 hz2 hz3 hz4 hz5
  generalize w4.heap.size = g at *
  go_wp2_with fail
  go_loopw [9, 10] (fun s t wr => ∃ k : Nat, k ≤ 4 ∧ s = .bool (metV (ax, ay) (bx, b_y) lx ly hx hy (hasB lx ly hx hy ax ay) k) ∧ t = .int .i64 k ∧ B3 w.heap.size g ax ay bx b_y lx ly hx hy wr ∧ Below w.heap.size w wr) (fun _ t _ => 4 - (intOf t).toNat)
  case atStart => exact ⟨0, by omega, rfl, rfl, hq, hBw⟩
  case round =>
    obtain ⟨k, hk, rfl, rfl, hq, hB⟩ := hrel
    obtain ⟨c0, c1, c2, c3, c4, c5, c6, c7⟩ : wr.cell? ⟨w.heap.size, 0, none⟩ = some (.int .i64 ax) ∧ wr.cell? ⟨w.heap.size, 1, none⟩ = some (.int .i64 ay) ∧ wr.cell? ⟨w.heap.size + 1, 0, none⟩ = some (.int .i64 bx) ∧ wr.cell? ⟨w.heap.size + 1, 1, none⟩ = some (.int .i64 b_y) ∧ wr.cell? ⟨w.heap.size + 1 + 1, 0, none⟩ = some (.int .i64 lx) ∧ wr.cell? ⟨w.heap.size + 1 + 1, 1, none⟩ = some (.int .i64 ly) ∧ wr.cell? ⟨w.heap.size + 1 + 1, 2, none⟩ = some (.int .i64 hx) ∧ wr.cell? ⟨w.heap.size + 1 + 1, 3, none⟩ = some (.int .i64 hy) :=
      ⟨hq.a1, hq.a2, hq.b1, hq.b2, hq.r1, hq.r2, hq.r3, hq.r4⟩
    have hzB := hB.size
    by_cases hk4 : k < 4
    · cases hm : metV (ax, ay) (bx, b_y) lx ly hx hy (hasB lx ly hx hy ax ay) k
      · have d0 := hq.cx k hk4
        have d1 := hq.cy k hk4
        have d2 := hq.cx ((k + 1) % 4) (by omega)
        have d3 := hq.cy ((k + 1) % 4) (by omega)
        have HQ := Lib.hid hq
        have hsd : sideV (ax, ay) (bx, b_y) lx ly hx hy k = meetV (ax, ay) (bx, b_y) (cornX lx hx k, cornY ly hy k) (cornX lx hx ((k + 1) % 4), cornY ly hy ((k + 1) % 4)) := rfl
        have HM := fun w => meet_any ax ay bx b_y (cornX lx hx k) (cornY ly hy k) (cornX lx hx ((k + 1) % 4)) (cornY ly hy ((k + 1) % 4)) w
        rw [← hsd] at HM
        have hmm : metV (ax, ay) (bx, b_y) lx ly hx hy (hasB lx ly hx hy ax ay) (k + 1) = sideV (ax, ay) (bx, b_y) lx ly hx hy k := by
          show (metV (ax, ay) (bx, b_y) lx ly hx hy (hasB lx ly hx hy ax ay) k || _) = _
          rw [hm]; rfl
        have HMM := Lib.hid hmm
        clear hq hsd hmm
        generalize cornX lx hx k = x1 at *
        generalize cornY ly hy k = y1 at *
        generalize cornX lx hx ((k + 1) % 4) = x2 at *
        generalize cornY ly hy ((k + 1) % 4) = y2 at *
        have em : ((k : Int) + 1).tmod 4 = (((k + 1) % 4 : Nat) : Int) := by rw [Int.tmod_eq_emod_of_nonneg (by omega)]; omega
        have em2 : ((k : Int) + 1) % 4 = (((k + 1) % 4 : Nat) : Int) := by omega
        have ew : IntKind.i64.wrap ((k : Int) + 1) = (k : Int) + 1 := IntWalk.i64_in _ (by omega)
        have ew2 : IntKind.i64.wrap (((k + 1) % 4 : Nat) : Int) = (((k + 1) % 4 : Nat) : Int) := IntWalk.i64_in _ (by omega)
        have hj : (k + 1) % 4 < 4 := by omega
        generalize (k + 1) % 4 = j at *
        have hjI : ((j : Nat) : Int) < 4 := by omega
        go_wp2_with fail
        (refine wp_region_text (by kernel_rfl) (by kernel_rfl) ?_; (repeat (first | (refine step_val (v := ?_) (by rfl) ?_ ?_; rotate_left; (· (intro z hz; obtain ⟨hc, hf⟩ := keep hz; go_simp; first | done | (with_reducible rfl))); (try simp only [Act.put, List.setIfInBounds_toArray, List.set_cons_zero, List.set_cons_succ])) | (refine step_skip (by rfl) ?_; (try simp only [Act.put, List.setIfInBounds_toArray, List.set_cons_zero, List.set_cons_succ])) | (refine step_call (v := ?_) (f := ?_) (args := ?_) (by rfl) ?_ ?_ ?_; rotate_left; rotate_left; rotate_left; (· (intro z hz; go_simp; first | done | (with_reducible rfl) | (constructor <;> with_reducible rfl))); (· (intro z hz; first | (go_at_call 10; refine (HM _).mono ?_; rintro e w' ⟨rfl, hB⟩; refine ⟨?_, hz.trans (hB.mono hz.size)⟩; with_reducible rfl))); (try simp only [Act.put, List.setIfInBounds_toArray, List.set_cons_zero, List.set_cons_succ])))); refine steps_end ?_; intro w' hB; obtain ⟨hc, hf⟩ := keep hB; have hz := hB.size; try simp at hz)
        go_wp2
        go_roundw
        case rel => exact ⟨k + 1, by omega, by rw [HMM.out], by go_num, HQ.out.keep hB, by (repeat' (first | (with_reducible exact Below.refl _ _) | (with_reducible assumption) | (with_reducible refine Below.alloc ?_ ?_ _) | (with_reducible refine Below.drew ?_) | (with_reducible refine Below.setCell ?_ ?_ _) | (with_reducible refine below_call (by with_reducible assumption) ?_ ?_) | (first | (with_reducible exact Nat.le_refl _) | (with_reducible assumption) | omega | (simp; done) | (simp; omega))))⟩
        case measure => simp [intOf] <;> omega
      · have HQ := Lib.hid hq
        have hmm : metV (ax, ay) (bx, b_y) lx ly hx hy (hasB lx ly hx hy ax ay) (k + 1) = true := by
          show (metV (ax, ay) (bx, b_y) lx ly hx hy (hasB lx ly hx hy ax ay) k || _) = _
          rw [hm]; rfl
        have HMM := Lib.hid hmm
        clear hq hmm
        go_wp2_with fail
        (refine wp_region_text (by kernel_rfl) (by kernel_rfl) ?_; (repeat (first | (refine step_val (v := ?_) (by rfl) ?_ ?_; rotate_left; (· (intro z hz; obtain ⟨hc, hf⟩ := keep hz; go_simp; first | done | (with_reducible rfl))); (try simp only [Act.put, List.setIfInBounds_toArray, List.set_cons_zero, List.set_cons_succ])) | (refine step_skip (by rfl) ?_; (try simp only [Act.put, List.setIfInBounds_toArray, List.set_cons_zero, List.set_cons_succ])) | (refine step_call (v := ?_) (f := ?_) (args := ?_) (by rfl) ?_ ?_ ?_; rotate_left; rotate_left; rotate_left; (· (intro z hz; go_simp; first | done | (with_reducible rfl) | (constructor <;> with_reducible rfl))); (· (intro z hz; first | (go_at_call 10; refine (meet_any _ _ _ _ _ _ _ _ _).mono ?_; rintro e w' ⟨rfl, hB⟩; refine ⟨?_, hz.trans (hB.mono hz.size)⟩; with_reducible rfl))); (try simp only [Act.put, List.setIfInBounds_toArray, List.set_cons_zero, List.set_cons_succ])))); refine steps_end ?_; intro w' hB; obtain ⟨hc, hf⟩ := keep hB; have hz := hB.size; try simp at hz)
        go_wp2
        go_roundw
        case rel => exact ⟨k + 1, by omega, by rw [HMM.out], by go_num, HQ.out.keep hB, by (repeat' (first | (with_reducible exact Below.refl _ _) | (with_reducible assumption) | (with_reducible refine Below.alloc ?_ ?_ _) | (with_reducible refine Below.drew ?_) | (with_reducible refine Below.setCell ?_ ?_ _) | (with_reducible refine below_call (by with_reducible assumption) ?_ ?_) | (first | (with_reducible exact Nat.le_refl _) | (with_reducible assumption) | omega | (simp; done) | (simp; omega))))⟩
        case measure => simp [intOf] <;> omega
    · have hk44 : k = 4 := by omega
      have e0 : metV (ax, ay) (bx, b_y) lx ly hx hy (hasB lx ly hx hy ax ay) k = meetsBoxV (ax, ay) (bx, b_y) lx ly hx hy := by
        rw [hk44, metV_all, box_law ha hb hbox]
      have e1 := box_flip (ax, ay) (bx, b_y) lx ly hx hy
      have e2 : meetsBoxV (ax, ay) (bx, b_y) lx ly lx ly = onV (ax, ay) (bx, b_y) (lx, ly) := box_point (ax, ay) (bx, b_y) (lx, ly)
      have hkI : ¬ (k : Int) < 4 := by omega
      clear hq hk44 hk4
      go_wp2_with fail
      (refine wp_region_text (by kernel_rfl) (by kernel_rfl) ?_; (repeat (first | (refine step_val (v := ?_) (by rfl) ?_ ?_; rotate_left; (· (intro z hz; obtain ⟨hc, hf⟩ := keep hz; go_simp; first | done | (with_reducible rfl))); (try simp only [Act.put, List.setIfInBounds_toArray, List.set_cons_zero, List.set_cons_succ])) | (refine step_skip (by rfl) ?_; (try simp only [Act.put, List.setIfInBounds_toArray, List.set_cons_zero, List.set_cons_succ])) | (refine step_call (v := ?_) (f := ?_) (args := ?_) (by rfl) ?_ ?_ ?_; rotate_left; rotate_left; rotate_left; (· (intro z hz; go_simp; first | done | (with_reducible rfl) | (constructor <;> with_reducible rfl))); (· (intro z hz; first | (go_at_call 22; refine (meetsBox_any _ _ _ _ _ _ _ _ _).mono ?_; rintro e w' ⟨rfl, hB⟩; refine ⟨?_, hz.trans (hB.mono hz.size)⟩; with_reducible rfl) | (go_at_call 12; refine (on_any _ _ _ _ _ _ _).mono ?_; rintro e w' ⟨rfl, hB⟩; refine ⟨?_, hz.trans (hB.mono hz.size)⟩; with_reducible rfl) | (go_at_call 14; refine (awake4_any _).mono ?_; rintro e w' ⟨rfl, hB⟩; refine ⟨?_, hz.trans (hB.mono hz.size)⟩; with_reducible rfl))); (try simp only [Act.put, List.setIfInBounds_toArray, List.set_cons_zero, List.set_cons_succ])))); refine steps_end ?_; intro w' hB; obtain ⟨hc, hf⟩ := keep hB; have hz := hB.size; try simp at hz)
      go_wp2
      go_ret
      exact ⟨rfl, by (repeat' (first | (with_reducible exact Below.refl _ _) | (with_reducible assumption) | (with_reducible refine Below.alloc ?_ ?_ _) | (with_reducible refine Below.drew ?_) | (with_reducible refine Below.setCell ?_ ?_ _) | (with_reducible refine below_call (by with_reducible assumption) ?_ ?_) | (first | (with_reducible exact Nat.le_refl _) | (with_reducible assumption) | omega | (simp; done) | (simp; omega))))⟩

set_option maxRecDepth 100000 in
set_option maxHeartbeats 4000000 in
theorem boxes_walk (ax ay bx b_y lx ly hx hy : Int) (w : World) :
    Calls Try.prog 9 #[.agg #[.int .i64 ax, .int .i64 ay], .agg #[.int .i64 bx, .int .i64 b_y], .agg #[.int .i64 lx, .int .i64 ly, .int .i64 hx, .int .i64 hy]] w fun e w' => e = .returned (.bool true) ∧ Below w.heap.size w w' := by
  have hcode := boxB_code (lx, ly, hx, hy)
  simp only at hcode
  cases ha : okB (ax, ay) <;> cases hb : okB (bx, b_y) <;> cases hbox : boxB (lx, ly, hx, hy)
  case true.true.true => exact boxes_in ax ay bx b_y lx ly hx hy ha hb hbox w
  all_goals
    have hv : meetsBoxV (ax, ay) (bx, b_y) lx ly hx hy = false := by unfold meetsBoxV ok2; rw [ha, hb, hbox]; rfl
    rw [hbox] at hcode
    have hcz := hcode
    simp at hcz
    clear hcode
    go_enter Try.func9, Try.ntmps9
    go_wp2_with (first | (go_at_call 22; refine (meetsBox_any _ _ _ _ _ _ _ _ _).mono ?_; rintro e w' ⟨rfl, hB⟩; obtain ⟨hc, hf⟩ := keep hB; have hz := hB.size; try simp at hz) | (go_at_call 15; refine (point_any _ _ _).mono ?_; rintro e w' ⟨rfl, hB⟩; obtain ⟨hc, hf⟩ := keep hB; have hz := hB.size; try simp at hz) | (go_at_call 25; refine (rcheckBox_any _ _ _ _ _).mono ?_; rintro e w' ⟨rfl, hB⟩; obtain ⟨hc, hf⟩ := keep hB; have hz := hB.size; try simp at hz) | (go_at_call 14; refine (awake4_any _).mono ?_; rintro e w' ⟨rfl, hB⟩; obtain ⟨hc, hf⟩ := keep hB; have hz := hB.size; try simp at hz))
    go_ret
    exact ⟨rfl, by (repeat' (first | (with_reducible exact Below.refl _ _) | (with_reducible assumption) | (with_reducible refine Below.alloc ?_ ?_ _) | (with_reducible refine Below.drew ?_) | (with_reducible refine Below.setCell ?_ ?_ _) | (with_reducible refine below_call (by with_reducible assumption) ?_ ?_) | (first | (with_reducible exact Nat.le_refl _) | (with_reducible assumption) | omega | (simp; done) | (simp; omega))))⟩

set_option maxRecDepth 100000 in
theorem sboxes_lifted (os : Os) (started : os.Started) (H : Type) (enc : TypeId × Value → H) :
    ReturnsInHanded {} Try.checked os 9 .any (Rows.segmBoxesSpec.pre6 enc Try.prog Try.f9 Rows.segmBoxesRow.domain false) (Rows.segmBoxesSpec.post enc Try.prog Try.f9 false true false false) := by
  refine returnsInHanded_of_change (C := Try.checked) own started (by kernel_rfl) Try.func9
    (ChangeSpec.witness6 (enc := enc) (C := Try.checked) false ⟨#[], #[.agg #[.int .i64 0, .int .i64 0], .agg #[.int .i64 0, .int .i64 0], .agg #[.int .i64 0, .int .i64 0, .int .i64 0, .int .i64 0]], []⟩ 8 (by kernel_rfl) (by kernel_rfl) (by kernel_rfl) (by kernel_rfl)) ?_
  intro W base args ds gs before hval0 hW _ _
  have hval : ∀ (j : Nat) t v, Try.f9.params[j]? = some t → args[j]? = some v → Value.okWide Try.prog W .any base t v := hval0
  have hW' := hW
  obtain ⟨p, q, hA0, hV, rfl, _, _⟩ := hW
  have hA : DataW.TrodAll enc Try.prog W 0 (fun _ => true) true Try.f9.params.toList args.toList ds p := hA0
  rw [Try.params9] at hA hval
  obtain ⟨v0, vs0, d0, ds0, p0, q0, hargs, rfl, rfl, h0, r0⟩ := trodAll_cons hA
  obtain ⟨v1, vs1, d1, ds1, p1, q1, rfl, rfl, rfl, h1, r1⟩ := trodAll_cons r0
  obtain ⟨v2, vs2, d2, ds2, p2, q2, rfl, rfl, rfl, h2, r2⟩ := trodAll_cons r1
  obtain ⟨rfl, rfl, rfl⟩ := trodAll_nil r2
  obtain rfl : args = #[v0, v1, v2] := by cases args; simp_all
  obtain ⟨rfl, rfl⟩ := trodVars_none hV
  obtain ⟨x0a, x0b, rfl, wx0a, wx0b⟩ := open_pt (hval 0 23 v0 rfl rfl) h0
  obtain ⟨x1a, x1b, rfl, wx1a, wx1b⟩ := open_pt (hval 1 23 v1 rfl rfl) h1
  obtain ⟨x2a, x2b, x2c, x2d, rfl, wx2a, wx2b, wx2c, wx2d⟩ := open_box (hval 2 39 v2 rfl rfl) h2
  refine (boxes_walk _ _ _ _ _ _ _ _ W).mono fun e W' ⟨he, hb⟩ => ?_
  subst he
  exact ⟨_, rfl, post_true laidOut (by kernel_rfl) rfl hW' hb (trodAll_mk1 (shut_bool Try.underlying4 _)) rfl rfl⟩

theorem sboxes_holds : Rows.SegmBoxesSaid :=
  OpenClaim.holds_of_wide 9 Try.f9 rfl rfl rfl rfl rfl rfl rfl ⟨rfl, rfl, rfl, rfl, rfl⟩ rfl rfl rfl rfl rfl (by kernel_rfl) Try.func9 (by kernel_rfl)
    (of_decide_eq_true (by kernel_rfl)) (by unfold Func.isWrapper; rw [if_neg (of_decide_eq_false (by kernel_rfl))]; exact ⟨rfl, rfl⟩)
    (fun os started H enc _ => sboxes_lifted os started H enc)
#print axioms sboxes_holds
end Go.Proofs.Ytocpdphchignpaa
