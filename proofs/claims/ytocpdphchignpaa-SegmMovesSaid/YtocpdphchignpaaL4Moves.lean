/- SegmMoves: moved together, segments lie as before, and points are as far; at the plane's ends too. For every four points and every step; no condition. -/
import Derived.Test.YtocpdphchignpaaL4Awake
import Derived.Test.YtocpdphchignpaaOpenPt
import Derived.Test.YtocpdphchignpaaRegionCell
import Derived.BigGuardPart
import Derived.IntWalk
namespace Go.Proofs.Ytocpdphchignpaa
open Go.ChangeShapes Go.WideShapes Go.ChangeAt Go.RowKit

def stpK (j k : Nat) (v d : Int) : Int := if j < k then v + d else v
def arrM (ax ay bx b_y cx cy dx dy x y : Int) (k : Nat) : Array Value :=
  #[.int .i64 (stpK 0 k ax x), .int .i64 (stpK 0 k ay y), .int .i64 (stpK 1 k bx x), .int .i64 (stpK 1 k b_y y), .int .i64 (stpK 2 k cx x), .int .i64 (stpK 2 k cy y), .int .i64 (stpK 3 k dx x), .int .i64 (stpK 3 k dy y)]
/-- Four points in four blocks from g on, one behind the other in block g + 4, and those moved in block g + 5. -/
structure M6 (t : TypeId) (g : Nat) (ax ay bx b_y cx cy dx dy x y : Int) (k : Nat) (w : World) : Prop where
  b0 : Blk w g t #[.int .i64 ax, .int .i64 ay]
  b1 : Blk w (g + 1) t #[.int .i64 bx, .int .i64 b_y]
  b2 : Blk w (g + 1 + 1) t #[.int .i64 cx, .int .i64 cy]
  b3 : Blk w (g + 1 + 1 + 1) t #[.int .i64 dx, .int .i64 dy]
  b4 : Blk w (g + 1 + 1 + 1 + 1) t #[.int .i64 ax, .int .i64 ay, .int .i64 bx, .int .i64 b_y, .int .i64 cx, .int .i64 cy, .int .i64 dx, .int .i64 dy]
  b5 : Blk w (g + 1 + 1 + 1 + 1 + 1) t (arrM ax ay bx b_y cx cy dx dy x y k)
theorem M6.grow {t : TypeId} {g : Nat} {ax ay bx b_y cx cy dx dy x y : Int} {k : Nat} {w w' : World} (h : M6 t g ax ay bx b_y cx cy dx dy x y k w) (hB : Below w.heap.size w w') : M6 t g ax ay bx b_y cx cy dx dy x y k w' :=
  ⟨h.b0.grow hB, h.b1.grow hB, h.b2.grow hB, h.b3.grow hB, h.b4.grow hB, h.b5.grow hB⟩
theorem M6.store {t : TypeId} {g : Nat} {ax ay bx b_y cx cy dx dy x y : Int} {k : Nat} {w : World} (h : M6 t g ax ay bx b_y cx cy dx dy x y k w) (n i : Nat) (u v : Int)
    (e : ((arrM ax ay bx b_y cx cy dx dy x y k).setIfInBounds i (.int .i64 u)).setIfInBounds (i + 1) (.int .i64 v) = arrM ax ay bx b_y cx cy dx dy x y (k + 1)) :
    M6 t g ax ay bx b_y cx cy dx dy x y (k + 1) (((w.drewN n).setCell ⟨g + 1 + 1 + 1 + 1 + 1, i, none⟩ (.int .i64 u)).setCell ⟨g + 1 + 1 + 1 + 1 + 1, i + 1, none⟩ (.int .i64 v)) :=
  ⟨((h.b0.drewN n).setO (by omega) _ _).setO (by omega) _ _, ((h.b1.drewN n).setO (by omega) _ _).setO (by omega) _ _, ((h.b2.drewN n).setO (by omega) _ _).setO (by omega) _ _,
    ((h.b3.drewN n).setO (by omega) _ _).setO (by omega) _ _, ((h.b4.drewN n).setO (by omega) _ _).setO (by omega) _ _, by rw [← e]; exact ((h.b5.drewN n).set_ _ _).set_ _ _⟩
/-- The first k are of the plane, and moved they are. -/
def OkK (ax ay bx b_y cx cy dx dy x y : Int) (k : Nat) : Prop :=
  (0 < k → okB (ax, ay) = true ∧ okB (ax + x, ay + y) = true) ∧ (1 < k → okB (bx, b_y) = true ∧ okB (bx + x, b_y + y) = true) ∧ (2 < k → okB (cx, cy) = true ∧ okB (cx + x, cy + y) = true) ∧ (3 < k → okB (dx, dy) = true ∧ okB (dx + x, dy + y) = true)

theorem mv_pair (x y a b : Int) : mv x y (a, b) = (a + x, b + y) := rfl
theorem onV_mv {x y : Int} {a b p : Int × Int} (h : ok3 a b p = true) (h' : ok3 (mv x y a) (mv x y b) (mv x y p) = true) : onV (mv x y a) (mv x y b) (mv x y p) = onV a b p := by
  rw [Bool.eq_iff_iff, onV_iff, onV_iff, onP_mv, h, h']
theorem meetV_mv {x y : Int} {a b c d : Int × Int} (h : ok4 a b c d = true) (h' : ok4 (mv x y a) (mv x y b) (mv x y c) (mv x y d) = true) : meetV (mv x y a) (mv x y b) (mv x y c) (mv x y d) = meetV a b c d := by
  rw [Bool.eq_iff_iff, meetV_iff, meetV_iff, meetP_mv, h, h']
theorem seg_mv_words {x y : Int} {a b p : Int × Int} (h : ok3 a b p = true) (h' : ok3 (mv x y a) (mv x y b) (mv x y p) = true) :
    segH (mv x y a) (mv x y b) (mv x y p) = segH a b p ∧ segL (mv x y a) (mv x y b) (mv x y p) = segL a b p ∧ segE (mv x y a) (mv x y b) (mv x y p) = segE a b p := by
  unfold segH segL segE
  rw [h, h', (seg_mv x y a b p).1, (seg_mv x y a b p).2]
  exact ⟨rfl, rfl, rfl⟩

set_option maxRecDepth 100000 in
set_option maxHeartbeats 4000000 in
theorem moves_far (ax ay bx b_y cx cy dx dy x y : Int) (hr : x < -2147483648 ∨ 2147483648 < x ∨ y < -2147483648 ∨ 2147483648 < y) (w : World) :
    Calls Try.prog 5 #[.agg #[.int .i64 ax, .int .i64 ay], .agg #[.int .i64 bx, .int .i64 b_y], .agg #[.int .i64 cx, .int .i64 cy], .agg #[.int .i64 dx, .int .i64 dy], .int .i64 x, .int .i64 y] w fun e w' => e = .returned (.bool true) ∧ Below w.heap.size w w' := by
  rcases hr with hr | hr | hr | hr
  all_goals
    go_enter Try.func5, Try.ntmps5
    go_wp2_with (go_at_call 14; refine (awake4_any _).mono ?_; rintro e w' ⟨rfl, hB⟩; obtain ⟨hc, hf⟩ := keep hB; have hz := hB.size; try simp at hz)
    all_goals (go_ret; exact ⟨rfl, by (repeat' (first | (with_reducible exact Below.refl _ _) | (with_reducible assumption) | (with_reducible refine Below.alloc ?_ ?_ _) | (with_reducible refine Below.drew ?_) | (with_reducible refine Below.setCell ?_ ?_ _) | (with_reducible refine below_call (by with_reducible assumption) ?_ ?_) | (first | (with_reducible exact Nat.le_refl _) | (with_reducible assumption) | omega | (simp; done) | (simp; omega))))⟩)

set_option maxRecDepth 100000 in
set_option maxHeartbeats 4000000 in
theorem moves_in (ax ay bx b_y cx cy dx dy x y : Int) (h1 : -2147483648 ≤ x) (h2 : x ≤ 2147483648) (h3 : -2147483648 ≤ y) (h4 : y ≤ 2147483648) (w : World) :
    Calls Try.prog 5 #[.agg #[.int .i64 ax, .int .i64 ay], .agg #[.int .i64 bx, .int .i64 b_y], .agg #[.int .i64 cx, .int .i64 cy], .agg #[.int .i64 dx, .int .i64 dy], .int .i64 x, .int .i64 y] w fun e w' => e = .returned (.bool true) ∧ Below w.heap.size w w' := by
  have d1 : decide (x < -2147483648) = false := by simpa using h1
  have d2 : decide (2147483648 < x) = false := by simpa using h2
  have d3 : decide (y < -2147483648) = false := by simpa using h3
  have d4 : decide (2147483648 < y) = false := by simpa using h4
  go_enter Try.func5, Try.ntmps5
  go_wp2
  go_loopw [15] (fun t wr => ∃ k : Nat, k ≤ 4 ∧ t = .int .i64 k ∧ OkK ax ay bx b_y cx cy dx dy x y k ∧ M6 23 w.heap.size ax ay bx b_y cx cy dx dy x y k wr ∧ Below w.heap.size w wr) (fun t _ => 4 - (intOf t).toNat)
  case atStart =>
    refine ⟨0, by omega, rfl, ⟨fun h => absurd h (by omega), fun h => absurd h (by omega), fun h => absurd h (by omega), fun h => absurd h (by omega)⟩, ⟨?_, ?_, ?_, ?_, ?_, ?_⟩, by (repeat' (first | (with_reducible exact Below.refl _ _) | (with_reducible assumption) | (with_reducible refine Below.alloc ?_ ?_ _) | (with_reducible refine Below.drew ?_) | (with_reducible refine Below.setCell ?_ ?_ _) | (with_reducible refine below_call (by with_reducible assumption) ?_ ?_) | (first | (with_reducible exact Nat.le_refl _) | (with_reducible assumption) | omega | (simp; done) | (simp; omega))))⟩
    · exact (((((Blk.new' _ _ (by simp)).alloc _).alloc _).alloc _).alloc _).alloc _
    · exact ((((Blk.new' _ _ (by simp)).alloc _).alloc _).alloc _).alloc _
    · exact (((Blk.new' _ _ (by simp)).alloc _).alloc _).alloc _
    · exact ((Blk.new' _ _ (by simp)).alloc _).alloc _
    · exact (Blk.new' _ _ (by simp)).alloc _
    · exact Blk.new' _ _ (by simp)
  case round =>
    obtain ⟨k, hk, rfl, hok, hq, hB⟩ := hrel
    have hzB := hB.size
    have hz5 := hq.b5.lt
    rcases (show k = 0 ∨ k = 1 ∨ k = 2 ∨ k = 3 ∨ k = 4 by omega) with rfl | rfl | rfl | rfl | rfl
    · have l0 := hq.b4.cell 0
      have l1 := hq.b4.cell 1
      have m0 := hq.b5.cell 0
      have m1 := hq.b5.cell 1
      have f0 := hq.b5.frozen 0
      have f1 := hq.b5.frozen 1
      simp [arrM, stpK] at l0 l1 m0 m1
      have HQ := Lib.hid hq
      clear hq
      rw [show ((0 : Nat) : Int) = 0 from rfl]
      cases ho : okB (ax, ay)
      · go_wp2_with (first | (go_at_call 15; refine (point_any _ _ _).mono ?_; rintro e w' ⟨rfl, hB⟩; obtain ⟨hc, hf⟩ := keep hB; have hz := hB.size; try simp at hz) | (go_at_call 14; refine (awake4_any _).mono ?_; rintro e w' ⟨rfl, hB⟩; obtain ⟨hc, hf⟩ := keep hB; have hz := hB.size; try simp at hz))
        go_ret
        exact ⟨rfl, by (repeat' (first | (with_reducible exact Below.refl _ _) | (with_reducible assumption) | (with_reducible refine Below.alloc ?_ ?_ _) | (with_reducible refine Below.drew ?_) | (with_reducible refine Below.setCell ?_ ?_ _) | (with_reducible refine below_call (by with_reducible assumption) ?_ ?_) | (first | (with_reducible exact Nat.le_refl _) | (with_reducible assumption) | omega | (simp; done) | (simp; omega))))⟩
      · have ho' := ho
        rw [okB_iff] at ho'
        obtain ⟨⟨p1, p2⟩, p3, p4⟩ := ho'
        have ew1 : IntKind.i64.wrap (ax + x) = ax + x := IntWalk.i64_in _ (by omega)
        have ew2 : IntKind.i64.wrap (ay + y) = ay + y := IntWalk.i64_in _ (by omega)
        go_wp2_with fail
        refine (point_any _ _ _).mono ?_; rintro e w1 ⟨rfl, hB1⟩; obtain ⟨hc1, hf1⟩ := keep hB1; have hz1 := hB1.size; try simp at hz1
        go_wp2_with fail
        go_region
        cases hm : okB (ax + x, ay + y)
        · go_wp2_with (first | (go_at_call 15; refine (point_any _ _ _).mono ?_; rintro e w' ⟨rfl, hB⟩; obtain ⟨hc, hf⟩ := keep hB; have hz := hB.size; try simp at hz) | (go_at_call 14; refine (awake4_any _).mono ?_; rintro e w' ⟨rfl, hB⟩; obtain ⟨hc, hf⟩ := keep hB; have hz := hB.size; try simp at hz))
          go_ret
          exact ⟨rfl, by (repeat' (first | (with_reducible exact Below.refl _ _) | (with_reducible assumption) | (with_reducible refine Below.alloc ?_ ?_ _) | (with_reducible refine Below.drew ?_) | (with_reducible refine Below.setCell ?_ ?_ _) | (with_reducible refine below_call (by with_reducible assumption) ?_ ?_) | (first | (with_reducible exact Nat.le_refl _) | (with_reducible assumption) | omega | (simp; done) | (simp; omega))))⟩
        · go_wp2_with fail
          refine (point_any _ _ _).mono ?_; rintro e w2 ⟨rfl, hB2⟩; obtain ⟨hc2, hf2⟩ := keep hB2; have hz2 := hB2.size; try simp at hz2
          go_wp2
          go_roundw
          case rel => exact ⟨1, by omega, rfl, ⟨fun _ => ⟨ho, hm⟩, fun h => absurd h (by omega), fun h => absurd h (by omega), fun h => absurd h (by omega)⟩, ((HQ.out.grow hB1).store _ 0 _ _ (by simp [arrM, stpK])).grow hB2, by (repeat' (first | (with_reducible exact Below.refl _ _) | (with_reducible assumption) | (with_reducible refine Below.alloc ?_ ?_ _) | (with_reducible refine Below.drew ?_) | (with_reducible refine Below.setCell ?_ ?_ _) | (with_reducible refine below_call (by with_reducible assumption) ?_ ?_) | (first | (with_reducible exact Nat.le_refl _) | (with_reducible assumption) | omega | (simp; done) | (simp; omega))))⟩
          case measure => simp [intOf]
    · have l0 := hq.b4.cell 2
      have l1 := hq.b4.cell 3
      have m0 := hq.b5.cell 2
      have m1 := hq.b5.cell 3
      have f0 := hq.b5.frozen 2
      have f1 := hq.b5.frozen 3
      simp [arrM, stpK] at l0 l1 m0 m1
      have HQ := Lib.hid hq
      clear hq
      rw [show ((1 : Nat) : Int) = 1 from rfl]
      cases ho : okB (bx, b_y)
      · go_wp2_with (first | (go_at_call 15; refine (point_any _ _ _).mono ?_; rintro e w' ⟨rfl, hB⟩; obtain ⟨hc, hf⟩ := keep hB; have hz := hB.size; try simp at hz) | (go_at_call 14; refine (awake4_any _).mono ?_; rintro e w' ⟨rfl, hB⟩; obtain ⟨hc, hf⟩ := keep hB; have hz := hB.size; try simp at hz))
        go_ret
        exact ⟨rfl, by (repeat' (first | (with_reducible exact Below.refl _ _) | (with_reducible assumption) | (with_reducible refine Below.alloc ?_ ?_ _) | (with_reducible refine Below.drew ?_) | (with_reducible refine Below.setCell ?_ ?_ _) | (with_reducible refine below_call (by with_reducible assumption) ?_ ?_) | (first | (with_reducible exact Nat.le_refl _) | (with_reducible assumption) | omega | (simp; done) | (simp; omega))))⟩
      · have ho' := ho
        rw [okB_iff] at ho'
        obtain ⟨⟨p1, p2⟩, p3, p4⟩ := ho'
        have ew1 : IntKind.i64.wrap (bx + x) = bx + x := IntWalk.i64_in _ (by omega)
        have ew2 : IntKind.i64.wrap (b_y + y) = b_y + y := IntWalk.i64_in _ (by omega)
        go_wp2_with fail
        refine (point_any _ _ _).mono ?_; rintro e w1 ⟨rfl, hB1⟩; obtain ⟨hc1, hf1⟩ := keep hB1; have hz1 := hB1.size; try simp at hz1
        go_wp2_with fail
        go_region
        cases hm : okB (bx + x, b_y + y)
        · go_wp2_with (first | (go_at_call 15; refine (point_any _ _ _).mono ?_; rintro e w' ⟨rfl, hB⟩; obtain ⟨hc, hf⟩ := keep hB; have hz := hB.size; try simp at hz) | (go_at_call 14; refine (awake4_any _).mono ?_; rintro e w' ⟨rfl, hB⟩; obtain ⟨hc, hf⟩ := keep hB; have hz := hB.size; try simp at hz))
          go_ret
          exact ⟨rfl, by (repeat' (first | (with_reducible exact Below.refl _ _) | (with_reducible assumption) | (with_reducible refine Below.alloc ?_ ?_ _) | (with_reducible refine Below.drew ?_) | (with_reducible refine Below.setCell ?_ ?_ _) | (with_reducible refine below_call (by with_reducible assumption) ?_ ?_) | (first | (with_reducible exact Nat.le_refl _) | (with_reducible assumption) | omega | (simp; done) | (simp; omega))))⟩
        · go_wp2_with fail
          refine (point_any _ _ _).mono ?_; rintro e w2 ⟨rfl, hB2⟩; obtain ⟨hc2, hf2⟩ := keep hB2; have hz2 := hB2.size; try simp at hz2
          go_wp2
          go_roundw
          case rel => exact ⟨2, by omega, rfl, ⟨fun h => hok.1 (by omega), fun _ => ⟨ho, hm⟩, fun h => absurd h (by omega), fun h => absurd h (by omega)⟩, ((HQ.out.grow hB1).store _ 2 _ _ (by simp [arrM, stpK])).grow hB2, by (repeat' (first | (with_reducible exact Below.refl _ _) | (with_reducible assumption) | (with_reducible refine Below.alloc ?_ ?_ _) | (with_reducible refine Below.drew ?_) | (with_reducible refine Below.setCell ?_ ?_ _) | (with_reducible refine below_call (by with_reducible assumption) ?_ ?_) | (first | (with_reducible exact Nat.le_refl _) | (with_reducible assumption) | omega | (simp; done) | (simp; omega))))⟩
          case measure => simp [intOf]
    · have l0 := hq.b4.cell 4
      have l1 := hq.b4.cell 5
      have m0 := hq.b5.cell 4
      have m1 := hq.b5.cell 5
      have f0 := hq.b5.frozen 4
      have f1 := hq.b5.frozen 5
      simp [arrM, stpK] at l0 l1 m0 m1
      have HQ := Lib.hid hq
      clear hq
      rw [show ((2 : Nat) : Int) = 2 from rfl]
      cases ho : okB (cx, cy)
      · go_wp2_with (first | (go_at_call 15; refine (point_any _ _ _).mono ?_; rintro e w' ⟨rfl, hB⟩; obtain ⟨hc, hf⟩ := keep hB; have hz := hB.size; try simp at hz) | (go_at_call 14; refine (awake4_any _).mono ?_; rintro e w' ⟨rfl, hB⟩; obtain ⟨hc, hf⟩ := keep hB; have hz := hB.size; try simp at hz))
        go_ret
        exact ⟨rfl, by (repeat' (first | (with_reducible exact Below.refl _ _) | (with_reducible assumption) | (with_reducible refine Below.alloc ?_ ?_ _) | (with_reducible refine Below.drew ?_) | (with_reducible refine Below.setCell ?_ ?_ _) | (with_reducible refine below_call (by with_reducible assumption) ?_ ?_) | (first | (with_reducible exact Nat.le_refl _) | (with_reducible assumption) | omega | (simp; done) | (simp; omega))))⟩
      · have ho' := ho
        rw [okB_iff] at ho'
        obtain ⟨⟨p1, p2⟩, p3, p4⟩ := ho'
        have ew1 : IntKind.i64.wrap (cx + x) = cx + x := IntWalk.i64_in _ (by omega)
        have ew2 : IntKind.i64.wrap (cy + y) = cy + y := IntWalk.i64_in _ (by omega)
        go_wp2_with fail
        refine (point_any _ _ _).mono ?_; rintro e w1 ⟨rfl, hB1⟩; obtain ⟨hc1, hf1⟩ := keep hB1; have hz1 := hB1.size; try simp at hz1
        go_wp2_with fail
        go_region
        cases hm : okB (cx + x, cy + y)
        · go_wp2_with (first | (go_at_call 15; refine (point_any _ _ _).mono ?_; rintro e w' ⟨rfl, hB⟩; obtain ⟨hc, hf⟩ := keep hB; have hz := hB.size; try simp at hz) | (go_at_call 14; refine (awake4_any _).mono ?_; rintro e w' ⟨rfl, hB⟩; obtain ⟨hc, hf⟩ := keep hB; have hz := hB.size; try simp at hz))
          go_ret
          exact ⟨rfl, by (repeat' (first | (with_reducible exact Below.refl _ _) | (with_reducible assumption) | (with_reducible refine Below.alloc ?_ ?_ _) | (with_reducible refine Below.drew ?_) | (with_reducible refine Below.setCell ?_ ?_ _) | (with_reducible refine below_call (by with_reducible assumption) ?_ ?_) | (first | (with_reducible exact Nat.le_refl _) | (with_reducible assumption) | omega | (simp; done) | (simp; omega))))⟩
        · go_wp2_with fail
          refine (point_any _ _ _).mono ?_; rintro e w2 ⟨rfl, hB2⟩; obtain ⟨hc2, hf2⟩ := keep hB2; have hz2 := hB2.size; try simp at hz2
          go_wp2
          go_roundw
          case rel => exact ⟨3, by omega, rfl, ⟨fun h => hok.1 (by omega), fun h => hok.2.1 (by omega), fun _ => ⟨ho, hm⟩, fun h => absurd h (by omega)⟩, ((HQ.out.grow hB1).store _ 4 _ _ (by simp [arrM, stpK])).grow hB2, by (repeat' (first | (with_reducible exact Below.refl _ _) | (with_reducible assumption) | (with_reducible refine Below.alloc ?_ ?_ _) | (with_reducible refine Below.drew ?_) | (with_reducible refine Below.setCell ?_ ?_ _) | (with_reducible refine below_call (by with_reducible assumption) ?_ ?_) | (first | (with_reducible exact Nat.le_refl _) | (with_reducible assumption) | omega | (simp; done) | (simp; omega))))⟩
          case measure => simp [intOf]
    · have l0 := hq.b4.cell 6
      have l1 := hq.b4.cell 7
      have m0 := hq.b5.cell 6
      have m1 := hq.b5.cell 7
      have f0 := hq.b5.frozen 6
      have f1 := hq.b5.frozen 7
      simp [arrM, stpK] at l0 l1 m0 m1
      have HQ := Lib.hid hq
      clear hq
      rw [show ((3 : Nat) : Int) = 3 from rfl]
      cases ho : okB (dx, dy)
      · go_wp2_with (first | (go_at_call 15; refine (point_any _ _ _).mono ?_; rintro e w' ⟨rfl, hB⟩; obtain ⟨hc, hf⟩ := keep hB; have hz := hB.size; try simp at hz) | (go_at_call 14; refine (awake4_any _).mono ?_; rintro e w' ⟨rfl, hB⟩; obtain ⟨hc, hf⟩ := keep hB; have hz := hB.size; try simp at hz))
        go_ret
        exact ⟨rfl, by (repeat' (first | (with_reducible exact Below.refl _ _) | (with_reducible assumption) | (with_reducible refine Below.alloc ?_ ?_ _) | (with_reducible refine Below.drew ?_) | (with_reducible refine Below.setCell ?_ ?_ _) | (with_reducible refine below_call (by with_reducible assumption) ?_ ?_) | (first | (with_reducible exact Nat.le_refl _) | (with_reducible assumption) | omega | (simp; done) | (simp; omega))))⟩
      · have ho' := ho
        rw [okB_iff] at ho'
        obtain ⟨⟨p1, p2⟩, p3, p4⟩ := ho'
        have ew1 : IntKind.i64.wrap (dx + x) = dx + x := IntWalk.i64_in _ (by omega)
        have ew2 : IntKind.i64.wrap (dy + y) = dy + y := IntWalk.i64_in _ (by omega)
        go_wp2_with fail
        refine (point_any _ _ _).mono ?_; rintro e w1 ⟨rfl, hB1⟩; obtain ⟨hc1, hf1⟩ := keep hB1; have hz1 := hB1.size; try simp at hz1
        go_wp2_with fail
        go_region
        cases hm : okB (dx + x, dy + y)
        · go_wp2_with (first | (go_at_call 15; refine (point_any _ _ _).mono ?_; rintro e w' ⟨rfl, hB⟩; obtain ⟨hc, hf⟩ := keep hB; have hz := hB.size; try simp at hz) | (go_at_call 14; refine (awake4_any _).mono ?_; rintro e w' ⟨rfl, hB⟩; obtain ⟨hc, hf⟩ := keep hB; have hz := hB.size; try simp at hz))
          go_ret
          exact ⟨rfl, by (repeat' (first | (with_reducible exact Below.refl _ _) | (with_reducible assumption) | (with_reducible refine Below.alloc ?_ ?_ _) | (with_reducible refine Below.drew ?_) | (with_reducible refine Below.setCell ?_ ?_ _) | (with_reducible refine below_call (by with_reducible assumption) ?_ ?_) | (first | (with_reducible exact Nat.le_refl _) | (with_reducible assumption) | omega | (simp; done) | (simp; omega))))⟩
        · go_wp2_with fail
          refine (point_any _ _ _).mono ?_; rintro e w2 ⟨rfl, hB2⟩; obtain ⟨hc2, hf2⟩ := keep hB2; have hz2 := hB2.size; try simp at hz2
          go_wp2
          go_roundw
          case rel => exact ⟨4, by omega, rfl, ⟨fun h => hok.1 (by omega), fun h => hok.2.1 (by omega), fun h => hok.2.2.1 (by omega), fun _ => ⟨ho, hm⟩⟩, ((HQ.out.grow hB1).store _ 6 _ _ (by simp [arrM, stpK])).grow hB2, by (repeat' (first | (with_reducible exact Below.refl _ _) | (with_reducible assumption) | (with_reducible refine Below.alloc ?_ ?_ _) | (with_reducible refine Below.drew ?_) | (with_reducible refine Below.setCell ?_ ?_ _) | (with_reducible refine below_call (by with_reducible assumption) ?_ ?_) | (first | (with_reducible exact Nat.le_refl _) | (with_reducible assumption) | omega | (simp; done) | (simp; omega))))⟩
          case measure => simp [intOf]
    · obtain ⟨⟨oa, oa'⟩, ⟨ob, ob'⟩, ⟨oc, oc'⟩, od, od'⟩ : (okB (ax, ay) = true ∧ okB (ax + x, ay + y) = true) ∧ (okB (bx, b_y) = true ∧ okB (bx + x, b_y + y) = true) ∧ (okB (cx, cy) = true ∧ okB (cx + x, cy + y) = true) ∧ (okB (dx, dy) = true ∧ okB (dx + x, dy + y) = true) :=
        ⟨hok.1 (by omega), hok.2.1 (by omega), hok.2.2.1 (by omega), hok.2.2.2 (by omega)⟩
      have h3 : ok3 (ax, ay) (bx, b_y) (cx, cy) = true := (ok3_iff _ _ _).2 ⟨oa, ob, oc⟩
      have h3' : ok3 (ax + x, ay + y) (bx + x, b_y + y) (cx + x, cy + y) = true := (ok3_iff _ _ _).2 ⟨oa', ob', oc'⟩
      have h4 : ok4 (ax, ay) (bx, b_y) (cx, cy) (dx, dy) = true := (ok4_iff _ _ _ _).2 ⟨oa, ob, oc, od⟩
      have h4' : ok4 (ax + x, ay + y) (bx + x, b_y + y) (cx + x, cy + y) (dx + x, dy + y) = true := (ok4_iff _ _ _ _).2 ⟨oa', ob', oc', od'⟩
      have f1 : meetV (ax + x, ay + y) (bx + x, b_y + y) (cx + x, cy + y) (dx + x, dy + y) = meetV (ax, ay) (bx, b_y) (cx, cy) (dx, dy) := meetV_mv (x := x) (y := y) h4 h4'
      have f2 : onV (ax + x, ay + y) (bx + x, b_y + y) (cx + x, cy + y) = onV (ax, ay) (bx, b_y) (cx, cy) := onV_mv (x := x) (y := y) h3 h3'
      obtain ⟨f3, f4, f5⟩ : segH (ax + x, ay + y) (bx + x, b_y + y) (cx + x, cy + y) = segH (ax, ay) (bx, b_y) (cx, cy) ∧ segL (ax + x, ay + y) (bx + x, b_y + y) (cx + x, cy + y) = segL (ax, ay) (bx, b_y) (cx, cy) ∧ segE (ax + x, ay + y) (bx + x, b_y + y) (cx + x, cy + y) = segE (ax, ay) (bx, b_y) (cx, cy) := seg_mv_words (x := x) (y := y) h3 h3'
      have c0 := hq.b0.cell 0
      have c1 := hq.b0.cell 1
      have c2 := hq.b1.cell 0
      have c3 := hq.b1.cell 1
      have c4 := hq.b2.cell 0
      have c5 := hq.b2.cell 1
      have c6 := hq.b3.cell 0
      have c7 := hq.b3.cell 1
      have c8 := hq.b5.cell 0
      have c9 := hq.b5.cell 1
      have c10 := hq.b5.cell 2
      have c11 := hq.b5.cell 3
      have c12 := hq.b5.cell 4
      have c13 := hq.b5.cell 5
      have c14 := hq.b5.cell 6
      have c15 := hq.b5.cell 7
      simp [arrM, stpK] at c0 c1 c2 c3 c4 c5 c6 c7 c8 c9 c10 c11 c12 c13 c14 c15
      clear hq hok h3 h3' h4 h4' oa oa' ob ob' oc oc' od od'
      rw [show ((4 : Nat) : Int) = 4 from rfl]
      go_wp2_with fail
      (refine wp_region_text (by kernel_rfl) (by kernel_rfl) ?_; (repeat (first | (refine step_val (v := ?_) (by rfl) ?_ ?_; rotate_left; (· (intro z hz; obtain ⟨hc, hf⟩ := keep hz; go_simp; first | done | (with_reducible rfl))); (try simp only [Act.put, List.setIfInBounds_toArray, List.set_cons_zero, List.set_cons_succ])) | (refine step_skip (by rfl) ?_; (try simp only [Act.put, List.setIfInBounds_toArray, List.set_cons_zero, List.set_cons_succ])) | (refine step_call (v := ?_) (f := ?_) (args := ?_) (by rfl) ?_ ?_ ?_; rotate_left; rotate_left; rotate_left; (· (intro z hz; go_simp; first | done | (with_reducible rfl) | (constructor <;> with_reducible rfl))); (· (intro z hz; first | (go_at_call 10; refine (meet_any _ _ _ _ _ _ _ _ _).mono ?_; rintro e w' ⟨rfl, hB⟩; refine ⟨?_, hz.trans (hB.mono hz.size)⟩; with_reducible rfl) | (go_at_call 12; refine (on_any _ _ _ _ _ _ _).mono ?_; rintro e w' ⟨rfl, hB⟩; refine ⟨?_, hz.trans (hB.mono hz.size)⟩; with_reducible rfl) | (go_at_call 13; refine (sdist_w _ _ _ _ _ _ _).mono ?_; rintro e w' ⟨rfl, hB⟩; refine ⟨?_, hz.trans (hB.mono hz.size)⟩; with_reducible rfl) | (go_at_call 14; refine (awake4_any _).mono ?_; rintro e w' ⟨rfl, hB⟩; refine ⟨?_, hz.trans (hB.mono hz.size)⟩; with_reducible rfl))); (try simp only [Act.put, List.setIfInBounds_toArray, List.set_cons_zero, List.set_cons_succ])))); refine steps_end ?_; intro w' hB; obtain ⟨hc, hf⟩ := keep hB; have hz := hB.size; try simp at hz)
      go_wp2
      go_ret
      exact ⟨rfl, by (repeat' (first | (with_reducible exact Below.refl _ _) | (with_reducible assumption) | (with_reducible refine Below.alloc ?_ ?_ _) | (with_reducible refine Below.drew ?_) | (with_reducible refine Below.setCell ?_ ?_ _) | (with_reducible refine below_call (by with_reducible assumption) ?_ ?_) | (first | (with_reducible exact Nat.le_refl _) | (with_reducible assumption) | omega | (simp; done) | (simp; omega))))⟩

theorem moves_walk (ax ay bx b_y cx cy dx dy x y : Int) (w : World) :
    Calls Try.prog 5 #[.agg #[.int .i64 ax, .int .i64 ay], .agg #[.int .i64 bx, .int .i64 b_y], .agg #[.int .i64 cx, .int .i64 cy], .agg #[.int .i64 dx, .int .i64 dy], .int .i64 x, .int .i64 y] w fun e w' => e = .returned (.bool true) ∧ Below w.heap.size w w' := by
  by_cases hr : x < -2147483648 ∨ 2147483648 < x ∨ y < -2147483648 ∨ 2147483648 < y
  · exact moves_far ax ay bx b_y cx cy dx dy x y hr w
  · exact moves_in ax ay bx b_y cx cy dx dy x y (by omega) (by omega) (by omega) (by omega) w

set_option maxRecDepth 100000 in
theorem moves_lifted (os : Os) (started : os.Started) (H : Type) (enc : TypeId × Value → H) :
    ReturnsInHanded {} Try.checked os 5 .any (Rows.segmMovesSpec.pre6 enc Try.prog Try.f5 Rows.segmMovesRow.domain false) (Rows.segmMovesSpec.post enc Try.prog Try.f5 false true false false) := by
  refine returnsInHanded_of_change (C := Try.checked) own started (by kernel_rfl) Try.func5
    (ChangeSpec.witness6 (enc := enc) (C := Try.checked) false ⟨#[], #[.agg #[.int .i64 0, .int .i64 0], .agg #[.int .i64 0, .int .i64 0], .agg #[.int .i64 0, .int .i64 0], .agg #[.int .i64 0, .int .i64 0], .int .i64 0, .int .i64 0], []⟩ 8 (by kernel_rfl) (by kernel_rfl) (by kernel_rfl) (by kernel_rfl)) ?_
  intro W base args ds gs before hval0 hW _ _
  have hval : ∀ (j : Nat) t v, Try.f5.params[j]? = some t → args[j]? = some v → Value.okWide Try.prog W .any base t v := hval0
  have hW' := hW
  obtain ⟨p, q, hA0, hV, rfl, _, _⟩ := hW
  have hA : DataW.TrodAll enc Try.prog W 0 (fun _ => true) true Try.f5.params.toList args.toList ds p := hA0
  rw [Try.params5] at hA hval
  obtain ⟨v0, vs0, d0, ds0, p0, q0, hargs, rfl, rfl, h0, r0⟩ := trodAll_cons hA
  obtain ⟨v1, vs1, d1, ds1, p1, q1, rfl, rfl, rfl, h1, r1⟩ := trodAll_cons r0
  obtain ⟨v2, vs2, d2, ds2, p2, q2, rfl, rfl, rfl, h2, r2⟩ := trodAll_cons r1
  obtain ⟨v3, vs3, d3, ds3, p3, q3, rfl, rfl, rfl, h3, r3⟩ := trodAll_cons r2
  obtain ⟨v4, vs4, d4, ds4, p4, q4, rfl, rfl, rfl, h4, r4⟩ := trodAll_cons r3
  obtain ⟨v5, vs5, d5, ds5, p5, q5, rfl, rfl, rfl, h5, r5⟩ := trodAll_cons r4
  obtain ⟨rfl, rfl, rfl⟩ := trodAll_nil r5
  obtain rfl : args = #[v0, v1, v2, v3, v4, v5] := by cases args; simp_all
  obtain ⟨rfl, rfl⟩ := trodVars_none hV
  obtain ⟨x0a, x0b, rfl, wx0a, wx0b⟩ := open_pt (hval 0 23 v0 rfl rfl) h0
  obtain ⟨x1a, x1b, rfl, wx1a, wx1b⟩ := open_pt (hval 1 23 v1 rfl rfl) h1
  obtain ⟨x2a, x2b, rfl, wx2a, wx2b⟩ := open_pt (hval 2 23 v2 rfl rfl) h2
  obtain ⟨x3a, x3b, rfl, wx3a, wx3b⟩ := open_pt (hval 3 23 v3 rfl rfl) h3
  obtain ⟨x4a, rfl, rfl, rfl, wx4a⟩ := open_int Try.underlying3 (hval 4 3 v4 rfl rfl) h4
  obtain ⟨x5a, rfl, rfl, rfl, wx5a⟩ := open_int Try.underlying3 (hval 5 3 v5 rfl rfl) h5
  refine (moves_walk _ _ _ _ _ _ _ _ _ _ W).mono fun e W' ⟨he, hb⟩ => ?_
  subst he
  exact ⟨_, rfl, post_true laidOut (by kernel_rfl) rfl hW' hb (trodAll_mk1 (shut_bool Try.underlying4 _)) rfl rfl⟩

theorem moves_holds : Rows.SegmMovesSaid :=
  OpenClaim.holds_of_wide 5 Try.f5 rfl rfl rfl rfl rfl rfl rfl ⟨rfl, rfl, rfl, rfl, rfl⟩ rfl rfl rfl rfl rfl (by kernel_rfl) Try.func5 (by kernel_rfl)
    (of_decide_eq_true (by kernel_rfl)) (by unfold Func.isWrapper; rw [if_neg (of_decide_eq_false (by kernel_rfl))]; exact ⟨rfl, rfl⟩)
    (fun os started H enc _ => moves_lifted os started H enc)
#print axioms moves_holds
end Go.Proofs.Ytocpdphchignpaa
