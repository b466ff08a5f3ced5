/- SegmCross: two that cross have their ends on both sides of each other, and no end on the other one; two that meet and do not cross have an end on the other one. For every four points; no condition. -/
import Derived.Test.YtocpdphchignpaaL4Awake
import Derived.Test.YtocpdphchignpaaOpenPt
import Derived.BigGuardPart
namespace Go.Proofs.Ytocpdphchignpaa
open Go.ChangeShapes Go.WideShapes Go.ChangeAt Go.RowKit

/-- Four points in four blocks from g on, and one behind the other in block g + 4. -/
structure Q4 (g : Nat) (ps : List (Int × Int)) (w : World) : Prop where
  size : g + 5 ≤ w.heap.size
  box : ∀ i, i < 4 → w.cell? ⟨g + i, 0, none⟩ = some (.int .i64 (ps.getD i (0, 0)).1) ∧ w.cell? ⟨g + i, 1, none⟩ = some (.int .i64 (ps.getD i (0, 0)).2)
  row : ∀ i, i < 4 → w.cell? ⟨g + 4, i * 2, none⟩ = some (.int .i64 (ps.getD i (0, 0)).1) ∧ w.cell? ⟨g + 4, i * 2 + 1, none⟩ = some (.int .i64 (ps.getD i (0, 0)).2)
theorem Q4.keep {g : Nat} {ps : List (Int × Int)} {w w' : World} (h : Q4 g ps w) (hB : Below w.heap.size w w') : Q4 g ps w' := by
  have hs := h.size
  refine ⟨Nat.le_trans hs hB.size, fun i hi => ?_, fun i hi => ?_⟩
  · rw [hB.cell (p := ⟨g + i, 0, none⟩) (by simp; omega), hB.cell (p := ⟨g + i, 1, none⟩) (by simp; omega)]
    exact h.box i hi
  · rw [hB.cell (p := ⟨g + 4, i * 2, none⟩) (by simp; omega), hB.cell (p := ⟨g + 4, i * 2 + 1, none⟩) (by simp; omega)]
    exact h.row i hi

def sideB (a b c d : Int × Int) : Bool := decide (oriV a b c * oriV a b d = -1)
theorem side_lt (a b c d : Int × Int) : sideB a b c d = decide (oriV a b c * oriV a b d < 0) := by
  unfold sideB
  rw [decide_eq_decide]
  rcases oriV_bd a b c with h | h | h <;> rcases oriV_bd a b d with g | g | g <;> rw [h, g] <;> decide
theorem proper_sides {a b c d : Int × Int} (h : ok4 a b c d = true) : properV a b c d = (sideB a b c d && sideB c d a b) := by
  unfold properV; rw [h, side_lt, side_lt]; rfl
theorem meet_or {a b c d : Int × Int} (h : ok4 a b c d = true) : meetV a b c d = (properV a b c d || (onV a b c || (onV a b d || (onV c d a || onV c d b)))) := by
  unfold meetV; rw [h]; rfl
theorem proper_off {a b c d : Int × Int} (h : properV a b c d = true) : onV a b c = false ∧ onV a b d = false ∧ onV c d a = false ∧ onV c d b = false := by
  rw [properV_iff] at h
  obtain ⟨_, h1, h2⟩ := h
  unfold SOpp at h1 h2
  refine ⟨?_, ?_, ?_, ?_⟩
  all_goals
    rw [Bool.eq_false_iff]
    intro h
    rw [onV_iff] at h
    have := h.2.1
    omega
theorem side_eq (a b c d : Int × Int) : (oriV a b c * oriV a b d == -1) = sideB a b c d := by
  unfold sideB; rw [Bool.eq_iff_iff]; simp
theorem no_four {a b c d : Int × Int} (h : ok4 a b c d = false) : meetV a b c d = false ∧ properV a b c d = false := by
  unfold meetV properV; rw [h]; exact ⟨rfl, rfl⟩
theorem all_four (a b c d : Int × Int) : [a, b, c, d].all okB = ok4 a b c d := by unfold ok4; simp

set_option linter.unusedSimpArgs false in
set_option maxRecDepth 100000 in
set_option maxHeartbeats 4000000 in
theorem cross_walk (ax ay bx b_y cx cy dx dy : Int) (w : World) :
    Calls Try.prog 6 #[.agg #[.int .i64 ax, .int .i64 ay], .agg #[.int .i64 bx, .int .i64 b_y], .agg #[.int .i64 cx, .int .i64 cy], .agg #[.int .i64 dx, .int .i64 dy]] w fun e w' => e = .returned (.bool true) ∧ Below w.heap.size w w' := by
  go_enter Try.func6, Try.ntmps6
  go_wp2
  go_loopw [10] (fun t wr => ∃ k : Nat, k ≤ 4 ∧ t = .int .i64 k ∧ ([(ax, ay), (bx, b_y), (cx, cy), (dx, dy)].take k).all okB = true ∧ Q4 w.heap.size [(ax, ay), (bx, b_y), (cx, cy), (dx, dy)] wr ∧ Below w.heap.size w wr) (fun t _ => 4 - (intOf t).toNat)
  case atStart =>
    refine ⟨0, by omega, rfl, rfl, ⟨by simp, fun i hi => ?_, fun i hi => ?_⟩, by (repeat' (first | (with_reducible exact Below.refl _ _) | (with_reducible assumption) | (with_reducible refine Below.alloc ?_ ?_ _) | (with_reducible refine Below.drew ?_) | (with_reducible refine Below.setCell ?_ ?_ _) | (with_reducible refine below_call (by with_reducible assumption) ?_ ?_) | (first | (with_reducible exact Nat.le_refl _) | (with_reducible assumption) | omega | (simp; done) | (simp; omega))))⟩
    · match i, hi with
      | 0, _ => constructor <;> (go_simp; done)
      | 1, _ => constructor <;> (go_simp; done)
      | 2, _ => constructor <;> (go_simp; done)
      | 3, _ => constructor <;> (go_simp; done)
    · match i, hi with
      | 0, _ => constructor <;> (go_simp; done)
      | 1, _ => constructor <;> (go_simp; done)
      | 2, _ => constructor <;> (go_simp; done)
      | 3, _ => constructor <;> (go_simp; done)
  case round =>
    obtain ⟨k, hk, rfl, ha, hq, hB⟩ := hrel
    have c0 : wr.cell? ⟨w.heap.size, 0, none⟩ = some (.int .i64 ax) := (hq.box 0 (by omega)).1
    have c1 : wr.cell? ⟨w.heap.size, 1, none⟩ = some (.int .i64 ay) := (hq.box 0 (by omega)).2
    have c2 : wr.cell? ⟨w.heap.size + 1, 0, none⟩ = some (.int .i64 bx) := (hq.box 1 (by omega)).1
    have c3 : wr.cell? ⟨w.heap.size + 1, 1, none⟩ = some (.int .i64 b_y) := (hq.box 1 (by omega)).2
    have c4 : wr.cell? ⟨w.heap.size + 1 + 1, 0, none⟩ = some (.int .i64 cx) := (hq.box 2 (by omega)).1
    have c5 : wr.cell? ⟨w.heap.size + 1 + 1, 1, none⟩ = some (.int .i64 cy) := (hq.box 2 (by omega)).2
    have c6 : wr.cell? ⟨w.heap.size + 1 + 1 + 1, 0, none⟩ = some (.int .i64 dx) := (hq.box 3 (by omega)).1
    have c7 : wr.cell? ⟨w.heap.size + 1 + 1 + 1, 1, none⟩ = some (.int .i64 dy) := (hq.box 3 (by omega)).2
    have hz0 := hq.size
    have hzB := hB.size
    by_cases hk4 : k < 4
    · have hx : wr.cell? ⟨w.heap.size + 1 + 1 + 1 + 1, k * 2, none⟩ = some (.int .i64 ([(ax, ay), (bx, b_y), (cx, cy), (dx, dy)].getD k (0, 0)).1) := (hq.row k hk4).1
      have hy : wr.cell? ⟨w.heap.size + 1 + 1 + 1 + 1, k * 2 + 1, none⟩ = some (.int .i64 ([(ax, ay), (bx, b_y), (cx, cy), (dx, dy)].getD k (0, 0)).2) := (hq.row k hk4).2
      have hs := all_take_snoc okB (0, 0) [(ax, ay), (bx, b_y), (cx, cy), (dx, dy)] k hk4
      have hbad := all_of_bad okB (0, 0) [(ax, ay), (bx, b_y), (cx, cy), (dx, dy)] k hk4
      rw [all_four] at hbad
      generalize [(ax, ay), (bx, b_y), (cx, cy), (dx, dy)].getD k (0, 0) = p at hx hy hs hbad
      obtain ⟨x, y⟩ := p
      dsimp only at hx hy
      have HQ := Lib.hid hq
      cases hok : okB (x, y)
      · obtain ⟨n1, n2⟩ := no_four (hbad hok)
        clear hs hbad ha hq
        go_wp2_with (first | (go_at_call 15; refine (point_any _ _ _).mono ?_; rintro e w' ⟨rfl, hB⟩; obtain ⟨hc, hf⟩ := keep hB; have hz := hB.size; try simp at hz) | (go_at_call 10; refine (meet_any _ _ _ _ _ _ _ _ _).mono ?_; rintro e w' ⟨rfl, hB⟩; obtain ⟨hc, hf⟩ := keep hB; have hz := hB.size; try simp at hz) | (go_at_call 11; refine (proper_any _ _ _ _ _ _ _ _ _).mono ?_; rintro e w' ⟨rfl, hB⟩; obtain ⟨hc, hf⟩ := keep hB; have hz := hB.size; try simp at hz) | (go_at_call 14; refine (awake4_any _).mono ?_; rintro e w' ⟨rfl, hB⟩; obtain ⟨hc, hf⟩ := keep hB; have hz := hB.size; try simp at hz))
        go_ret
        exact ⟨rfl, by (repeat' (first | (with_reducible exact Below.refl _ _) | (with_reducible assumption) | (with_reducible refine Below.alloc ?_ ?_ _) | (with_reducible refine Below.drew ?_) | (with_reducible refine Below.setCell ?_ ?_ _) | (with_reducible refine below_call (by with_reducible assumption) ?_ ?_) | (first | (with_reducible exact Nat.le_refl _) | (with_reducible assumption) | omega | (simp; done) | (simp; omega))))⟩
      · have HS := Lib.hid hs; have HA := Lib.hid ha
        clear hs hbad ha hq
        go_wp2_with fail
        refine (point_any _ _ _).mono ?_; rintro e w1 ⟨rfl, hB1⟩; obtain ⟨hc1, hf1⟩ := keep hB1; have hz1 := hB1.size; try simp at hz1
        go_wp2
        go_roundw
        case rel => exact ⟨k + 1, by omega, by go_num, by rw [HS.out, HA.out, hok]; rfl, HQ.out.keep hB1, by (repeat' (first | (with_reducible exact Below.refl _ _) | (with_reducible assumption) | (with_reducible refine Below.alloc ?_ ?_ _) | (with_reducible refine Below.drew ?_) | (with_reducible refine Below.setCell ?_ ?_ _) | (with_reducible refine below_call (by with_reducible assumption) ?_ ?_) | (first | (with_reducible exact Nat.le_refl _) | (with_reducible assumption) | omega | (simp; done) | (simp; omega))))⟩
        case measure => simp [intOf] <;> omega
    · have h4 : ok4 (ax, ay) (bx, b_y) (cx, cy) (dx, dy) = true := by
        rw [List.take_of_length_le (by simp; omega), all_four] at ha; exact ha
      have hP := proper_sides h4
      have hM := meet_or h4
      have hO := proper_off (a := (ax, ay)) (b := (bx, b_y)) (c := (cx, cy)) (d := (dx, dy))
      have s1 := side_eq (ax, ay) (bx, b_y) (cx, cy) (dx, dy)
      have s2 := side_eq (cx, cy) (dx, dy) (ax, ay) (bx, b_y)
      have p1 := ori_wrap (ax, ay) (bx, b_y) (cx, cy) (ax, ay) (bx, b_y) (dx, dy)
      have q1 := ori_wrap (cx, cy) (dx, dy) (ax, ay) (cx, cy) (dx, dy) (bx, b_y)
      have hkI : ¬ (k : Int) < 4 := by omega
      clear ha hq h4 hk4
      cases g1 : sideB (ax, ay) (bx, b_y) (cx, cy) (dx, dy)
      · rw [g1] at s1 hP
        simp only [Bool.false_and] at hP
        rw [hP] at hM
        simp only [Bool.false_or] at hM
        cases o1 : onV (ax, ay) (bx, b_y) (cx, cy)
        · cases o2 : onV (ax, ay) (bx, b_y) (dx, dy)
          · cases o3 : onV (cx, cy) (dx, dy) (ax, ay)
            · cases o4 : onV (cx, cy) (dx, dy) (bx, b_y)
              · rw [o1, o2, o3, o4] at hM
                simp only [Bool.or_false, Bool.or_true, Bool.true_or, Bool.false_or] at hM
                clear hO
                go_wp2_with (first | (go_at_call 12; refine (on_any _ _ _ _ _ _ _).mono ?_; rintro e w' ⟨rfl, hB⟩; obtain ⟨hc, hf⟩ := keep hB; have hz := hB.size; try simp at hz))
                (refine wp_region_text (by kernel_rfl) (by kernel_rfl) ?_; (repeat (first | (refine step_val (v := ?_) (by rfl) ?_ ?_; rotate_left; (· (intro z hz; obtain ⟨hc, hf⟩ := keep hz; go_simp; first | done | (with_reducible rfl))); (try simp only [Act.put, List.setIfInBounds_toArray, List.set_cons_zero, List.set_cons_succ])) | (refine step_skip (by rfl) ?_; (try simp only [Act.put, List.setIfInBounds_toArray, List.set_cons_zero, List.set_cons_succ])) | (refine step_call (v := ?_) (f := ?_) (args := ?_) (by rfl) ?_ ?_ ?_; rotate_left; rotate_left; rotate_left; (· (intro z hz; go_simp; first | done | (with_reducible rfl) | (constructor <;> with_reducible rfl))); (· (intro z hz; first | (go_at_call 18; refine (rori_any _ _ _ _ _ _ _).mono ?_; rintro e w' ⟨rfl, hB⟩; refine ⟨?_, hz.trans (hB.mono hz.size)⟩; with_reducible rfl))); (try simp only [Act.put, List.setIfInBounds_toArray, List.set_cons_zero, List.set_cons_succ])))); refine steps_end ?_; intro w' hB; obtain ⟨hc, hf⟩ := keep hB; have hz := hB.size; try simp at hz)
                go_wp2_with (first | (go_at_call 11; refine (proper_any _ _ _ _ _ _ _ _ _).mono ?_; rintro e w' ⟨rfl, hB⟩; obtain ⟨hc, hf⟩ := keep hB; have hz := hB.size; try simp at hz) | (go_at_call 10; refine (meet_any _ _ _ _ _ _ _ _ _).mono ?_; rintro e w' ⟨rfl, hB⟩; obtain ⟨hc, hf⟩ := keep hB; have hz := hB.size; try simp at hz) | (go_at_call 14; refine (awake4_any _).mono ?_; rintro e w' ⟨rfl, hB⟩; obtain ⟨hc, hf⟩ := keep hB; have hz := hB.size; try simp at hz))
                go_ret
                exact ⟨rfl, by (repeat' (first | (with_reducible exact Below.refl _ _) | (with_reducible assumption) | (with_reducible refine Below.alloc ?_ ?_ _) | (with_reducible refine Below.drew ?_) | (with_reducible refine Below.setCell ?_ ?_ _) | (with_reducible refine below_call (by with_reducible assumption) ?_ ?_) | (first | (with_reducible exact Nat.le_refl _) | (with_reducible assumption) | omega | (simp; done) | (simp; omega))))⟩
              · rw [o1, o2, o3, o4] at hM
                simp only [Bool.or_false, Bool.or_true, Bool.true_or, Bool.false_or] at hM
                clear hO
                go_wp2_with (first | (go_at_call 12; refine (on_any _ _ _ _ _ _ _).mono ?_; rintro e w' ⟨rfl, hB⟩; obtain ⟨hc, hf⟩ := keep hB; have hz := hB.size; try simp at hz))
                (refine wp_region_text (by kernel_rfl) (by kernel_rfl) ?_; (repeat (first | (refine step_val (v := ?_) (by rfl) ?_ ?_; rotate_left; (· (intro z hz; obtain ⟨hc, hf⟩ := keep hz; go_simp; first | done | (with_reducible rfl))); (try simp only [Act.put, List.setIfInBounds_toArray, List.set_cons_zero, List.set_cons_succ])) | (refine step_skip (by rfl) ?_; (try simp only [Act.put, List.setIfInBounds_toArray, List.set_cons_zero, List.set_cons_succ])) | (refine step_call (v := ?_) (f := ?_) (args := ?_) (by rfl) ?_ ?_ ?_; rotate_left; rotate_left; rotate_left; (· (intro z hz; go_simp; first | done | (with_reducible rfl) | (constructor <;> with_reducible rfl))); (· (intro z hz; first | (go_at_call 18; refine (rori_any _ _ _ _ _ _ _).mono ?_; rintro e w' ⟨rfl, hB⟩; refine ⟨?_, hz.trans (hB.mono hz.size)⟩; with_reducible rfl))); (try simp only [Act.put, List.setIfInBounds_toArray, List.set_cons_zero, List.set_cons_succ])))); refine steps_end ?_; intro w' hB; obtain ⟨hc, hf⟩ := keep hB; have hz := hB.size; try simp at hz)
                go_wp2_with (first | (go_at_call 11; refine (proper_any _ _ _ _ _ _ _ _ _).mono ?_; rintro e w' ⟨rfl, hB⟩; obtain ⟨hc, hf⟩ := keep hB; have hz := hB.size; try simp at hz) | (go_at_call 10; refine (meet_any _ _ _ _ _ _ _ _ _).mono ?_; rintro e w' ⟨rfl, hB⟩; obtain ⟨hc, hf⟩ := keep hB; have hz := hB.size; try simp at hz) | (go_at_call 14; refine (awake4_any _).mono ?_; rintro e w' ⟨rfl, hB⟩; obtain ⟨hc, hf⟩ := keep hB; have hz := hB.size; try simp at hz))
                go_ret
                exact ⟨rfl, by (repeat' (first | (with_reducible exact Below.refl _ _) | (with_reducible assumption) | (with_reducible refine Below.alloc ?_ ?_ _) | (with_reducible refine Below.drew ?_) | (with_reducible refine Below.setCell ?_ ?_ _) | (with_reducible refine below_call (by with_reducible assumption) ?_ ?_) | (first | (with_reducible exact Nat.le_refl _) | (with_reducible assumption) | omega | (simp; done) | (simp; omega))))⟩
            · rw [o1, o2, o3] at hM
              simp only [Bool.or_false, Bool.or_true, Bool.true_or, Bool.false_or] at hM
              clear hO
              go_wp2_with (first | (go_at_call 12; refine (on_any _ _ _ _ _ _ _).mono ?_; rintro e w' ⟨rfl, hB⟩; obtain ⟨hc, hf⟩ := keep hB; have hz := hB.size; try simp at hz))
              (refine wp_region_text (by kernel_rfl) (by kernel_rfl) ?_; (repeat (first | (refine step_val (v := ?_) (by rfl) ?_ ?_; rotate_left; (· (intro z hz; obtain ⟨hc, hf⟩ := keep hz; go_simp; first | done | (with_reducible rfl))); (try simp only [Act.put, List.setIfInBounds_toArray, List.set_cons_zero, List.set_cons_succ])) | (refine step_skip (by rfl) ?_; (try simp only [Act.put, List.setIfInBounds_toArray, List.set_cons_zero, List.set_cons_succ])) | (refine step_call (v := ?_) (f := ?_) (args := ?_) (by rfl) ?_ ?_ ?_; rotate_left; rotate_left; rotate_left; (· (intro z hz; go_simp; first | done | (with_reducible rfl) | (constructor <;> with_reducible rfl))); (· (intro z hz; first | (go_at_call 18; refine (rori_any _ _ _ _ _ _ _).mono ?_; rintro e w' ⟨rfl, hB⟩; refine ⟨?_, hz.trans (hB.mono hz.size)⟩; with_reducible rfl))); (try simp only [Act.put, List.setIfInBounds_toArray, List.set_cons_zero, List.set_cons_succ])))); refine steps_end ?_; intro w' hB; obtain ⟨hc, hf⟩ := keep hB; have hz := hB.size; try simp at hz)
              go_wp2_with (first | (go_at_call 11; refine (proper_any _ _ _ _ _ _ _ _ _).mono ?_; rintro e w' ⟨rfl, hB⟩; obtain ⟨hc, hf⟩ := keep hB; have hz := hB.size; try simp at hz) | (go_at_call 10; refine (meet_any _ _ _ _ _ _ _ _ _).mono ?_; rintro e w' ⟨rfl, hB⟩; obtain ⟨hc, hf⟩ := keep hB; have hz := hB.size; try simp at hz) | (go_at_call 14; refine (awake4_any _).mono ?_; rintro e w' ⟨rfl, hB⟩; obtain ⟨hc, hf⟩ := keep hB; have hz := hB.size; try simp at hz))
              go_ret
              exact ⟨rfl, by (repeat' (first | (with_reducible exact Below.refl _ _) | (with_reducible assumption) | (with_reducible refine Below.alloc ?_ ?_ _) | (with_reducible refine Below.drew ?_) | (with_reducible refine Below.setCell ?_ ?_ _) | (with_reducible refine below_call (by with_reducible assumption) ?_ ?_) | (first | (with_reducible exact Nat.le_refl _) | (with_reducible assumption) | omega | (simp; done) | (simp; omega))))⟩
          · rw [o1, o2] at hM
            simp only [Bool.or_false, Bool.or_true, Bool.true_or, Bool.false_or] at hM
            clear hO
            go_wp2_with (first | (go_at_call 12; refine (on_any _ _ _ _ _ _ _).mono ?_; rintro e w' ⟨rfl, hB⟩; obtain ⟨hc, hf⟩ := keep hB; have hz := hB.size; try simp at hz))
            (refine wp_region_text (by kernel_rfl) (by kernel_rfl) ?_; (repeat (first | (refine step_val (v := ?_) (by rfl) ?_ ?_; rotate_left; (· (intro z hz; obtain ⟨hc, hf⟩ := keep hz; go_simp; first | done | (with_reducible rfl))); (try simp only [Act.put, List.setIfInBounds_toArray, List.set_cons_zero, List.set_cons_succ])) | (refine step_skip (by rfl) ?_; (try simp only [Act.put, List.setIfInBounds_toArray, List.set_cons_zero, List.set_cons_succ])) | (refine step_call (v := ?_) (f := ?_) (args := ?_) (by rfl) ?_ ?_ ?_; rotate_left; rotate_left; rotate_left; (· (intro z hz; go_simp; first | done | (with_reducible rfl) | (constructor <;> with_reducible rfl))); (· (intro z hz; first | (go_at_call 18; refine (rori_any _ _ _ _ _ _ _).mono ?_; rintro e w' ⟨rfl, hB⟩; refine ⟨?_, hz.trans (hB.mono hz.size)⟩; with_reducible rfl))); (try simp only [Act.put, List.setIfInBounds_toArray, List.set_cons_zero, List.set_cons_succ])))); refine steps_end ?_; intro w' hB; obtain ⟨hc, hf⟩ := keep hB; have hz := hB.size; try simp at hz)
            go_wp2_with (first | (go_at_call 11; refine (proper_any _ _ _ _ _ _ _ _ _).mono ?_; rintro e w' ⟨rfl, hB⟩; obtain ⟨hc, hf⟩ := keep hB; have hz := hB.size; try simp at hz) | (go_at_call 10; refine (meet_any _ _ _ _ _ _ _ _ _).mono ?_; rintro e w' ⟨rfl, hB⟩; obtain ⟨hc, hf⟩ := keep hB; have hz := hB.size; try simp at hz) | (go_at_call 14; refine (awake4_any _).mono ?_; rintro e w' ⟨rfl, hB⟩; obtain ⟨hc, hf⟩ := keep hB; have hz := hB.size; try simp at hz))
            go_ret
            exact ⟨rfl, by (repeat' (first | (with_reducible exact Below.refl _ _) | (with_reducible assumption) | (with_reducible refine Below.alloc ?_ ?_ _) | (with_reducible refine Below.drew ?_) | (with_reducible refine Below.setCell ?_ ?_ _) | (with_reducible refine below_call (by with_reducible assumption) ?_ ?_) | (first | (with_reducible exact Nat.le_refl _) | (with_reducible assumption) | omega | (simp; done) | (simp; omega))))⟩
        · rw [o1] at hM
          simp only [Bool.or_false, Bool.or_true, Bool.true_or, Bool.false_or] at hM
          clear hO
          go_wp2_with (first | (go_at_call 12; refine (on_any _ _ _ _ _ _ _).mono ?_; rintro e w' ⟨rfl, hB⟩; obtain ⟨hc, hf⟩ := keep hB; have hz := hB.size; try simp at hz))
          (refine wp_region_text (by kernel_rfl) (by kernel_rfl) ?_; (repeat (first | (refine step_val (v := ?_) (by rfl) ?_ ?_; rotate_left; (· (intro z hz; obtain ⟨hc, hf⟩ := keep hz; go_simp; first | done | (with_reducible rfl))); (try simp only [Act.put, List.setIfInBounds_toArray, List.set_cons_zero, List.set_cons_succ])) | (refine step_skip (by rfl) ?_; (try simp only [Act.put, List.setIfInBounds_toArray, List.set_cons_zero, List.set_cons_succ])) | (refine step_call (v := ?_) (f := ?_) (args := ?_) (by rfl) ?_ ?_ ?_; rotate_left; rotate_left; rotate_left; (· (intro z hz; go_simp; first | done | (with_reducible rfl) | (constructor <;> with_reducible rfl))); (· (intro z hz; first | (go_at_call 18; refine (rori_any _ _ _ _ _ _ _).mono ?_; rintro e w' ⟨rfl, hB⟩; refine ⟨?_, hz.trans (hB.mono hz.size)⟩; with_reducible rfl))); (try simp only [Act.put, List.setIfInBounds_toArray, List.set_cons_zero, List.set_cons_succ])))); refine steps_end ?_; intro w' hB; obtain ⟨hc, hf⟩ := keep hB; have hz := hB.size; try simp at hz)
          go_wp2_with (first | (go_at_call 11; refine (proper_any _ _ _ _ _ _ _ _ _).mono ?_; rintro e w' ⟨rfl, hB⟩; obtain ⟨hc, hf⟩ := keep hB; have hz := hB.size; try simp at hz) | (go_at_call 10; refine (meet_any _ _ _ _ _ _ _ _ _).mono ?_; rintro e w' ⟨rfl, hB⟩; obtain ⟨hc, hf⟩ := keep hB; have hz := hB.size; try simp at hz) | (go_at_call 14; refine (awake4_any _).mono ?_; rintro e w' ⟨rfl, hB⟩; obtain ⟨hc, hf⟩ := keep hB; have hz := hB.size; try simp at hz))
          go_ret
          exact ⟨rfl, by (repeat' (first | (with_reducible exact Below.refl _ _) | (with_reducible assumption) | (with_reducible refine Below.alloc ?_ ?_ _) | (with_reducible refine Below.drew ?_) | (with_reducible refine Below.setCell ?_ ?_ _) | (with_reducible refine below_call (by with_reducible assumption) ?_ ?_) | (first | (with_reducible exact Nat.le_refl _) | (with_reducible assumption) | omega | (simp; done) | (simp; omega))))⟩
      · cases g2 : sideB (cx, cy) (dx, dy) (ax, ay) (bx, b_y)
        · rw [g1] at s1 hP
          rw [g2] at s2 hP
          simp only [Bool.and_false] at hP
          rw [hP] at hM
          simp only [Bool.false_or] at hM
          cases o1 : onV (ax, ay) (bx, b_y) (cx, cy)
          · cases o2 : onV (ax, ay) (bx, b_y) (dx, dy)
            · cases o3 : onV (cx, cy) (dx, dy) (ax, ay)
              · cases o4 : onV (cx, cy) (dx, dy) (bx, b_y)
                · rw [o1, o2, o3, o4] at hM
                  simp only [Bool.or_false, Bool.or_true, Bool.true_or, Bool.false_or] at hM
                  clear hO
                  go_wp2_with (first | (go_at_call 12; refine (on_any _ _ _ _ _ _ _).mono ?_; rintro e w' ⟨rfl, hB⟩; obtain ⟨hc, hf⟩ := keep hB; have hz := hB.size; try simp at hz))
                  (refine wp_region_text (by kernel_rfl) (by kernel_rfl) ?_; (repeat (first | (refine step_val (v := ?_) (by rfl) ?_ ?_; rotate_left; (· (intro z hz; obtain ⟨hc, hf⟩ := keep hz; go_simp; first | done | (with_reducible rfl))); (try simp only [Act.put, List.setIfInBounds_toArray, List.set_cons_zero, List.set_cons_succ])) | (refine step_skip (by rfl) ?_; (try simp only [Act.put, List.setIfInBounds_toArray, List.set_cons_zero, List.set_cons_succ])) | (refine step_call (v := ?_) (f := ?_) (args := ?_) (by rfl) ?_ ?_ ?_; rotate_left; rotate_left; rotate_left; (· (intro z hz; go_simp; first | done | (with_reducible rfl) | (constructor <;> with_reducible rfl))); (· (intro z hz; first | (go_at_call 18; refine (rori_any _ _ _ _ _ _ _).mono ?_; rintro e w' ⟨rfl, hB⟩; refine ⟨?_, hz.trans (hB.mono hz.size)⟩; with_reducible rfl))); (try simp only [Act.put, List.setIfInBounds_toArray, List.set_cons_zero, List.set_cons_succ])))); refine steps_end ?_; intro w' hB; obtain ⟨hc, hf⟩ := keep hB; have hz := hB.size; try simp at hz)
                  go_wp2_with (first | (go_at_call 11; refine (proper_any _ _ _ _ _ _ _ _ _).mono ?_; rintro e w' ⟨rfl, hB⟩; obtain ⟨hc, hf⟩ := keep hB; have hz := hB.size; try simp at hz) | (go_at_call 10; refine (meet_any _ _ _ _ _ _ _ _ _).mono ?_; rintro e w' ⟨rfl, hB⟩; obtain ⟨hc, hf⟩ := keep hB; have hz := hB.size; try simp at hz) | (go_at_call 14; refine (awake4_any _).mono ?_; rintro e w' ⟨rfl, hB⟩; obtain ⟨hc, hf⟩ := keep hB; have hz := hB.size; try simp at hz))
                  go_ret
                  exact ⟨rfl, by (repeat' (first | (with_reducible exact Below.refl _ _) | (with_reducible assumption) | (with_reducible refine Below.alloc ?_ ?_ _) | (with_reducible refine Below.drew ?_) | (with_reducible refine Below.setCell ?_ ?_ _) | (with_reducible refine below_call (by with_reducible assumption) ?_ ?_) | (first | (with_reducible exact Nat.le_refl _) | (with_reducible assumption) | omega | (simp; done) | (simp; omega))))⟩
                · rw [o1, o2, o3, o4] at hM
                  simp only [Bool.or_false, Bool.or_true, Bool.true_or, Bool.false_or] at hM
                  clear hO
                  go_wp2_with (first | (go_at_call 12; refine (on_any _ _ _ _ _ _ _).mono ?_; rintro e w' ⟨rfl, hB⟩; obtain ⟨hc, hf⟩ := keep hB; have hz := hB.size; try simp at hz))
                  (refine wp_region_text (by kernel_rfl) (by kernel_rfl) ?_; (repeat (first | (refine step_val (v := ?_) (by rfl) ?_ ?_; rotate_left; (· (intro z hz; obtain ⟨hc, hf⟩ := keep hz; go_simp; first | done | (with_reducible rfl))); (try simp only [Act.put, List.setIfInBounds_toArray, List.set_cons_zero, List.set_cons_succ])) | (refine step_skip (by rfl) ?_; (try simp only [Act.put, List.setIfInBounds_toArray, List.set_cons_zero, List.set_cons_succ])) | (refine step_call (v := ?_) (f := ?_) (args := ?_) (by rfl) ?_ ?_ ?_; rotate_left; rotate_left; rotate_left; (· (intro z hz; go_simp; first | done | (with_reducible rfl) | (constructor <;> with_reducible rfl))); (· (intro z hz; first | (go_at_call 18; refine (rori_any _ _ _ _ _ _ _).mono ?_; rintro e w' ⟨rfl, hB⟩; refine ⟨?_, hz.trans (hB.mono hz.size)⟩; with_reducible rfl))); (try simp only [Act.put, List.setIfInBounds_toArray, List.set_cons_zero, List.set_cons_succ])))); refine steps_end ?_; intro w' hB; obtain ⟨hc, hf⟩ := keep hB; have hz := hB.size; try simp at hz)
                  go_wp2_with (first | (go_at_call 11; refine (proper_any _ _ _ _ _ _ _ _ _).mono ?_; rintro e w' ⟨rfl, hB⟩; obtain ⟨hc, hf⟩ := keep hB; have hz := hB.size; try simp at hz) | (go_at_call 10; refine (meet_any _ _ _ _ _ _ _ _ _).mono ?_; rintro e w' ⟨rfl, hB⟩; obtain ⟨hc, hf⟩ := keep hB; have hz := hB.size; try simp at hz) | (go_at_call 14; refine (awake4_any _).mono ?_; rintro e w' ⟨rfl, hB⟩; obtain ⟨hc, hf⟩ := keep hB; have hz := hB.size; try simp at hz))
                  go_ret
                  exact ⟨rfl, by (repeat' (first | (with_reducible exact Below.refl _ _) | (with_reducible assumption) | (with_reducible refine Below.alloc ?_ ?_ _) | (with_reducible refine Below.drew ?_) | (with_reducible refine Below.setCell ?_ ?_ _) | (with_reducible refine below_call (by with_reducible assumption) ?_ ?_) | (first | (with_reducible exact Nat.le_refl _) | (with_reducible assumption) | omega | (simp; done) | (simp; omega))))⟩
              · rw [o1, o2, o3] at hM
                simp only [Bool.or_false, Bool.or_true, Bool.true_or, Bool.false_or] at hM
                clear hO
                go_wp2_with (first | (go_at_call 12; refine (on_any _ _ _ _ _ _ _).mono ?_; rintro e w' ⟨rfl, hB⟩; obtain ⟨hc, hf⟩ := keep hB; have hz := hB.size; try simp at hz))
                (refine wp_region_text (by kernel_rfl) (by kernel_rfl) ?_; (repeat (first | (refine step_val (v := ?_) (by rfl) ?_ ?_; rotate_left; (· (intro z hz; obtain ⟨hc, hf⟩ := keep hz; go_simp; first | done | (with_reducible rfl))); (try simp only [Act.put, List.setIfInBounds_toArray, List.set_cons_zero, List.set_cons_succ])) | (refine step_skip (by rfl) ?_; (try simp only [Act.put, List.setIfInBounds_toArray, List.set_cons_zero, List.set_cons_succ])) | (refine step_call (v := ?_) (f := ?_) (args := ?_) (by rfl) ?_ ?_ ?_; rotate_left; rotate_left; rotate_left; (· (intro z hz; go_simp; first | done | (with_reducible rfl) | (constructor <;> with_reducible rfl))); (· (intro z hz; first | (go_at_call 18; refine (rori_any _ _ _ _ _ _ _).mono ?_; rintro e w' ⟨rfl, hB⟩; refine ⟨?_, hz.trans (hB.mono hz.size)⟩; with_reducible rfl))); (try simp only [Act.put, List.setIfInBounds_toArray, List.set_cons_zero, List.set_cons_succ])))); refine steps_end ?_; intro w' hB; obtain ⟨hc, hf⟩ := keep hB; have hz := hB.size; try simp at hz)
                go_wp2_with (first | (go_at_call 11; refine (proper_any _ _ _ _ _ _ _ _ _).mono ?_; rintro e w' ⟨rfl, hB⟩; obtain ⟨hc, hf⟩ := keep hB; have hz := hB.size; try simp at hz) | (go_at_call 10; refine (meet_any _ _ _ _ _ _ _ _ _).mono ?_; rintro e w' ⟨rfl, hB⟩; obtain ⟨hc, hf⟩ := keep hB; have hz := hB.size; try simp at hz) | (go_at_call 14; refine (awake4_any _).mono ?_; rintro e w' ⟨rfl, hB⟩; obtain ⟨hc, hf⟩ := keep hB; have hz := hB.size; try simp at hz))
                go_ret
                exact ⟨rfl, by (repeat' (first | (with_reducible exact Below.refl _ _) | (with_reducible assumption) | (with_reducible refine Below.alloc ?_ ?_ _) | (with_reducible refine Below.drew ?_) | (with_reducible refine Below.setCell ?_ ?_ _) | (with_reducible refine below_call (by with_reducible assumption) ?_ ?_) | (first | (with_reducible exact Nat.le_refl _) | (with_reducible assumption) | omega | (simp; done) | (simp; omega))))⟩
            · rw [o1, o2] at hM
              simp only [Bool.or_false, Bool.or_true, Bool.true_or, Bool.false_or] at hM
              clear hO
              go_wp2_with (first | (go_at_call 12; refine (on_any _ _ _ _ _ _ _).mono ?_; rintro e w' ⟨rfl, hB⟩; obtain ⟨hc, hf⟩ := keep hB; have hz := hB.size; try simp at hz))
              (refine wp_region_text (by kernel_rfl) (by kernel_rfl) ?_; (repeat (first | (refine step_val (v := ?_) (by rfl) ?_ ?_; rotate_left; (· (intro z hz; obtain ⟨hc, hf⟩ := keep hz; go_simp; first | done | (with_reducible rfl))); (try simp only [Act.put, List.setIfInBounds_toArray, List.set_cons_zero, List.set_cons_succ])) | (refine step_skip (by rfl) ?_; (try simp only [Act.put, List.setIfInBounds_toArray, List.set_cons_zero, List.set_cons_succ])) | (refine step_call (v := ?_) (f := ?_) (args := ?_) (by rfl) ?_ ?_ ?_; rotate_left; rotate_left; rotate_left; (· (intro z hz; go_simp; first | done | (with_reducible rfl) | (constructor <;> with_reducible rfl))); (· (intro z hz; first | (go_at_call 18; refine (rori_any _ _ _ _ _ _ _).mono ?_; rintro e w' ⟨rfl, hB⟩; refine ⟨?_, hz.trans (hB.mono hz.size)⟩; with_reducible rfl))); (try simp only [Act.put, List.setIfInBounds_toArray, List.set_cons_zero, List.set_cons_succ])))); refine steps_end ?_; intro w' hB; obtain ⟨hc, hf⟩ := keep hB; have hz := hB.size; try simp at hz)
              go_wp2_with (first | (go_at_call 11; refine (proper_any _ _ _ _ _ _ _ _ _).mono ?_; rintro e w' ⟨rfl, hB⟩; obtain ⟨hc, hf⟩ := keep hB; have hz := hB.size; try simp at hz) | (go_at_call 10; refine (meet_any _ _ _ _ _ _ _ _ _).mono ?_; rintro e w' ⟨rfl, hB⟩; obtain ⟨hc, hf⟩ := keep hB; have hz := hB.size; try simp at hz) | (go_at_call 14; refine (awake4_any _).mono ?_; rintro e w' ⟨rfl, hB⟩; obtain ⟨hc, hf⟩ := keep hB; have hz := hB.size; try simp at hz))
              go_ret
              exact ⟨rfl, by (repeat' (first | (with_reducible exact Below.refl _ _) | (with_reducible assumption) | (with_reducible refine Below.alloc ?_ ?_ _) | (with_reducible refine Below.drew ?_) | (with_reducible refine Below.setCell ?_ ?_ _) | (with_reducible refine below_call (by with_reducible assumption) ?_ ?_) | (first | (with_reducible exact Nat.le_refl _) | (with_reducible assumption) | omega | (simp; done) | (simp; omega))))⟩
          · rw [o1] at hM
            simp only [Bool.or_false, Bool.or_true, Bool.true_or, Bool.false_or] at hM
            clear hO
            go_wp2_with (first | (go_at_call 12; refine (on_any _ _ _ _ _ _ _).mono ?_; rintro e w' ⟨rfl, hB⟩; obtain ⟨hc, hf⟩ := keep hB; have hz := hB.size; try simp at hz))
            (refine wp_region_text (by kernel_rfl) (by kernel_rfl) ?_; (repeat (first | (refine step_val (v := ?_) (by rfl) ?_ ?_; rotate_left; (· (intro z hz; obtain ⟨hc, hf⟩ := keep hz; go_simp; first | done | (with_reducible rfl))); (try simp only [Act.put, List.setIfInBounds_toArray, List.set_cons_zero, List.set_cons_succ])) | (refine step_skip (by rfl) ?_; (try simp only [Act.put, List.setIfInBounds_toArray, List.set_cons_zero, List.set_cons_succ])) | (refine step_call (v := ?_) (f := ?_) (args := ?_) (by rfl) ?_ ?_ ?_; rotate_left; rotate_left; rotate_left; (· (intro z hz; go_simp; first | done | (with_reducible rfl) | (constructor <;> with_reducible rfl))); (· (intro z hz; first | (go_at_call 18; refine (rori_any _ _ _ _ _ _ _).mono ?_; rintro e w' ⟨rfl, hB⟩; refine ⟨?_, hz.trans (hB.mono hz.size)⟩; with_reducible rfl))); (try simp only [Act.put, List.setIfInBounds_toArray, List.set_cons_zero, List.set_cons_succ])))); refine steps_end ?_; intro w' hB; obtain ⟨hc, hf⟩ := keep hB; have hz := hB.size; try simp at hz)
            go_wp2_with (first | (go_at_call 11; refine (proper_any _ _ _ _ _ _ _ _ _).mono ?_; rintro e w' ⟨rfl, hB⟩; obtain ⟨hc, hf⟩ := keep hB; have hz := hB.size; try simp at hz) | (go_at_call 10; refine (meet_any _ _ _ _ _ _ _ _ _).mono ?_; rintro e w' ⟨rfl, hB⟩; obtain ⟨hc, hf⟩ := keep hB; have hz := hB.size; try simp at hz) | (go_at_call 14; refine (awake4_any _).mono ?_; rintro e w' ⟨rfl, hB⟩; obtain ⟨hc, hf⟩ := keep hB; have hz := hB.size; try simp at hz))
            go_ret
            exact ⟨rfl, by (repeat' (first | (with_reducible exact Below.refl _ _) | (with_reducible assumption) | (with_reducible refine Below.alloc ?_ ?_ _) | (with_reducible refine Below.drew ?_) | (with_reducible refine Below.setCell ?_ ?_ _) | (with_reducible refine below_call (by with_reducible assumption) ?_ ?_) | (first | (with_reducible exact Nat.le_refl _) | (with_reducible assumption) | omega | (simp; done) | (simp; omega))))⟩
        · rw [g1] at s1 hP
          rw [g2] at s2 hP
          simp only [Bool.and_true] at hP
          obtain ⟨o1, o2, o3, o4⟩ := hO hP
          rw [hP] at hM
          simp only [Bool.true_or] at hM
          clear hO
          go_wp2_with (first | (go_at_call 12; refine (on_any _ _ _ _ _ _ _).mono ?_; rintro e w' ⟨rfl, hB⟩; obtain ⟨hc, hf⟩ := keep hB; have hz := hB.size; try simp at hz))
          (refine wp_region_text (by kernel_rfl) (by kernel_rfl) ?_; (repeat (first | (refine step_val (v := ?_) (by rfl) ?_ ?_; rotate_left; (· (intro z hz; obtain ⟨hc, hf⟩ := keep hz; go_simp; first | done | (with_reducible rfl))); (try simp only [Act.put, List.setIfInBounds_toArray, List.set_cons_zero, List.set_cons_succ])) | (refine step_skip (by rfl) ?_; (try simp only [Act.put, List.setIfInBounds_toArray, List.set_cons_zero, List.set_cons_succ])) | (refine step_call (v := ?_) (f := ?_) (args := ?_) (by rfl) ?_ ?_ ?_; rotate_left; rotate_left; rotate_left; (· (intro z hz; go_simp; first | done | (with_reducible rfl) | (constructor <;> with_reducible rfl))); (· (intro z hz; first | (go_at_call 18; refine (rori_any _ _ _ _ _ _ _).mono ?_; rintro e w' ⟨rfl, hB⟩; refine ⟨?_, hz.trans (hB.mono hz.size)⟩; with_reducible rfl))); (try simp only [Act.put, List.setIfInBounds_toArray, List.set_cons_zero, List.set_cons_succ])))); refine steps_end ?_; intro w' hB; obtain ⟨hc, hf⟩ := keep hB; have hz := hB.size; try simp at hz)
          go_wp2_with (first | (go_at_call 11; refine (proper_any _ _ _ _ _ _ _ _ _).mono ?_; rintro e w' ⟨rfl, hB⟩; obtain ⟨hc, hf⟩ := keep hB; have hz := hB.size; try simp at hz) | (go_at_call 10; refine (meet_any _ _ _ _ _ _ _ _ _).mono ?_; rintro e w' ⟨rfl, hB⟩; obtain ⟨hc, hf⟩ := keep hB; have hz := hB.size; try simp at hz) | (go_at_call 14; refine (awake4_any _).mono ?_; rintro e w' ⟨rfl, hB⟩; obtain ⟨hc, hf⟩ := keep hB; have hz := hB.size; try simp at hz))
          go_ret
          exact ⟨rfl, by (repeat' (first | (with_reducible exact Below.refl _ _) | (with_reducible assumption) | (with_reducible refine Below.alloc ?_ ?_ _) | (with_reducible refine Below.drew ?_) | (with_reducible refine Below.setCell ?_ ?_ _) | (with_reducible refine below_call (by with_reducible assumption) ?_ ?_) | (first | (with_reducible exact Nat.le_refl _) | (with_reducible assumption) | omega | (simp; done) | (simp; omega))))⟩

set_option maxRecDepth 100000 in
theorem cross_lifted (os : Os) (started : os.Started) (H : Type) (enc : TypeId × Value → H) :
    ReturnsInHanded {} Try.checked os 6 .any (Rows.segmCrossSpec.pre6 enc Try.prog Try.f6 Rows.segmCrossRow.domain false) (Rows.segmCrossSpec.post enc Try.prog Try.f6 false true false false) := by
  refine returnsInHanded_of_change (C := Try.checked) own started (by kernel_rfl) Try.func6
    (ChangeSpec.witness6 (enc := enc) (C := Try.checked) false ⟨#[], #[.agg #[.int .i64 0, .int .i64 0], .agg #[.int .i64 0, .int .i64 0], .agg #[.int .i64 0, .int .i64 0], .agg #[.int .i64 0, .int .i64 0]], []⟩ 8 (by kernel_rfl) (by kernel_rfl) (by kernel_rfl) (by kernel_rfl)) ?_
  intro W base args ds gs before hval0 hW _ _
  have hval : ∀ (j : Nat) t v, Try.f6.params[j]? = some t → args[j]? = some v → Value.okWide Try.prog W .any base t v := hval0
  have hW' := hW
  obtain ⟨p, q, hA0, hV, rfl, _, _⟩ := hW
  have hA : DataW.TrodAll enc Try.prog W 0 (fun _ => true) true Try.f6.params.toList args.toList ds p := hA0
  rw [Try.params6] at hA hval
  obtain ⟨v0, vs0, d0, ds0, p0, q0, hargs, rfl, rfl, h0, r0⟩ := trodAll_cons hA
  obtain ⟨v1, vs1, d1, ds1, p1, q1, rfl, rfl, rfl, h1, r1⟩ := trodAll_cons r0
  obtain ⟨v2, vs2, d2, ds2, p2, q2, rfl, rfl, rfl, h2, r2⟩ := trodAll_cons r1
  obtain ⟨v3, vs3, d3, ds3, p3, q3, rfl, rfl, rfl, h3, r3⟩ := trodAll_cons r2
  obtain ⟨rfl, rfl, rfl⟩ := trodAll_nil r3
  obtain rfl : args = #[v0, v1, v2, v3] := by cases args; simp_all
  obtain ⟨rfl, rfl⟩ := trodVars_none hV
  obtain ⟨x0a, x0b, rfl, wx0a, wx0b⟩ := open_pt (hval 0 23 v0 rfl rfl) h0
  obtain ⟨x1a, x1b, rfl, wx1a, wx1b⟩ := open_pt (hval 1 23 v1 rfl rfl) h1
  obtain ⟨x2a, x2b, rfl, wx2a, wx2b⟩ := open_pt (hval 2 23 v2 rfl rfl) h2
  obtain ⟨x3a, x3b, rfl, wx3a, wx3b⟩ := open_pt (hval 3 23 v3 rfl rfl) h3
  refine (cross_walk _ _ _ _ _ _ _ _ W).mono fun e W' ⟨he, hb⟩ => ?_
  subst he
  exact ⟨_, rfl, post_true laidOut (by kernel_rfl) rfl hW' hb (trodAll_mk1 (shut_bool Try.underlying4 _)) rfl rfl⟩

theorem cross_holds : Rows.SegmCrossSaid :=
  OpenClaim.holds_of_wide 6 Try.f6 rfl rfl rfl rfl rfl rfl rfl ⟨rfl, rfl, rfl, rfl, rfl⟩ rfl rfl rfl rfl rfl (by kernel_rfl) Try.func6 (by kernel_rfl)
    (of_decide_eq_true (by kernel_rfl)) (by unfold Func.isWrapper; rw [if_neg (of_decide_eq_false (by kernel_rfl))]; exact ⟨rfl, rfl⟩)
    (fun os started H enc _ => cross_lifted os started H enc)
#print axioms cross_holds
end Go.Proofs.Ytocpdphchignpaa
