/- pergolaref3: dot, SegDist. -/
import Derived.Test.YtocpdphchignpaaSegD
import Derived.Test.YtocpdphchignpaaRefSum
import Derived.Test.YtocpdphchignpaaRefSegA
import Derived.IntWalk
namespace Go.Proofs.Ytocpdphchignpaa
open Go.RowKit

set_option maxHeartbeats 400000 in
theorem rdot_any (ox oy ax ay bx b_y : Int) (ho : okB (ox, oy) = true) (ha : okB (ax, ay) = true) (hb : okB (bx, b_y) = true) (w : World) :
    Calls Try.prog 43 #[.agg #[.int .i64 ox, .int .i64 oy], .agg #[.int .i64 ax, .int .i64 ay], .agg #[.int .i64 bx, .int .i64 b_y]] w fun e w' => e = .returned (.int .i64 (dotV (ox, oy) (ax, ay) (bx, b_y))) ∧ Below w.heap.size w w' := by
  rw [okB_iff] at ho ha hb
  obtain ⟨⟨o1, o2⟩, o3, o4⟩ := ho
  obtain ⟨⟨a1, a2⟩, a3, a4⟩ := ha
  obtain ⟨⟨b1, b2⟩, b3, b4⟩ := hb
  obtain ⟨x1, x2⟩ := dot_bd (x := ax - ox) (y := bx - ox) (by omega) (by omega)
  obtain ⟨y1, y2⟩ := dot_bd (x := ay - oy) (y := b_y - oy) (by omega) (by omega)
  go_enter Try.func43, Try.ntmps43
  go_wp2
  go_ret
  exact ⟨rfl, by (repeat' (first | (with_reducible exact Below.refl _ _) | (with_reducible assumption) | (with_reducible refine Below.alloc ?_ ?_ _) | (with_reducible refine Below.drew ?_) | (with_reducible refine Below.setCell ?_ ?_ _) | (with_reducible refine below_call (by with_reducible assumption) ?_ ?_) | (first | (with_reducible exact Nat.le_refl _) | (with_reducible assumption) | omega | (simp; done) | (simp; omega))))⟩

/-- How far a point is from a segment: three words, or none. -/
def segV (a b p : Int × Int) : Value := if ok3 a b p = true then lowD (segN a b p) (segD a b p) else .agg #[.int .u64 0, .int .u64 0, .int .u64 0]
theorem sq_lowD {ax ay bx b_y : Int} (ha : okB (ax, ay) = true) (hb : okB (bx, b_y) = true) : Value.agg #[.int .u64 (hiOf (sqN ax ay bx b_y)), .int .u64 (loOf (sqN ax ay bx b_y)), .int .u64 (sqD ax ay bx b_y)] = lowD (sqd (ax, ay) (bx, b_y)) 1 := by
  rw [lowD_one]; unfold sqN sqD ok2 sqd; rw [ha, hb]; rfl

set_option maxRecDepth 100000 in
set_option maxHeartbeats 4000000 in
theorem rsdist_mid (ax ay bx b_y px py : Int) (ha : okB (ax, ay) = true) (hb : okB (bx, b_y) = true) (hp : okB (px, py) = true) (hne : eq2 ax ay bx b_y = false) (h1 : 0 < dotV (ax, ay) (bx, b_y) (px, py)) (h2 : 0 < dotV (bx, b_y) (ax, ay) (px, py)) (w : World) :
    Calls Try.prog 24 #[.agg #[.int .i64 ax, .int .i64 ay], .agg #[.int .i64 bx, .int .i64 b_y], .agg #[.int .i64 px, .int .i64 py]] w fun e w' => e = .returned (lowD (cr (ax, ay) (bx, b_y) (px, py) * cr (ax, ay) (bx, b_y) (px, py)) (sqd (ax, ay) (bx, b_y))) ∧ Below w.heap.size w w' := by
  have h3 : ok3 (ax, ay) (bx, b_y) (px, py) = true := (ok3_iff _ _ _).2 ⟨ha, hb, hp⟩
  have hC := crossV_bd (ax, ay) (bx, b_y) (px, py)
  have hi : Int64 (crossV (ax, ay) (bx, b_y) (px, py)) := by unfold Int64; omega
  have eC := crossV_cr h3
  have hd1 : decide (dotV (ax, ay) (bx, b_y) (px, py) ≤ 0) = false := by simpa using h1
  have hd2 : decide (dotV (bx, b_y) (ax, ay) (px, py) ≤ 0) = false := by simpa using h2
  have ne : (ax, ay) ≠ (bx, b_y) := by
    intro h; injection h with h h'; subst h; subst h'; simp at hne
  have hpos := sqd_pos ne
  have ha' := ha; have hb' := hb
  rw [okB_iff] at ha' hb'
  obtain ⟨⟨a1, a2⟩, a3, a4⟩ := ha'
  obtain ⟨⟨b1, b2⟩, b3, b4⟩ := hb'
  have hlt : sqd (ax, ay) (bx, b_y) < 18446744073709551616 := by
    have m1 := mul_far (ax - bx) (ax - bx) (by omega) (by omega)
    have m2 := mul_far (ay - b_y) (ay - b_y) (by omega) (by omega)
    unfold sqd; simp only; omega
  have eL : loOf (sqd (ax, ay) (bx, b_y)) = sqd (ax, ay) (bx, b_y) := by unfold loOf; omega
  rw [← eC]
  generalize hcc : crossV (ax, ay) (bx, b_y) (px, py) = C at *
  have hsq := sq_big hi
  have HM := fun w => lowest_any (hiOf (C * C)) (loOf (C * C)) (sqd (ax, ay) (bx, b_y)) (hiOf_word _) (loOf_word _) ⟨Int.le_of_lt hpos, hlt⟩ hpos w
  rw [num_hl (by unfold Big; omega)] at HM
  have HQ := fun w => rsum_any (ax - bx) (ay - b_y) (by unfold Int64; omega) (by unfold Int64; omega) w
  have hS : (ax - bx) * (ax - bx) + (ay - b_y) * (ay - b_y) = sqd (ax, ay) (bx, b_y) := rfl
  rw [hS, eL] at HQ
  have HC := fun w => rcross_any ax ay bx b_y px py w
  rw [hcc] at HC
  have HW := fun w => rsquare_any C hi w
  unfold lowD
  generalize sqd (ax, ay) (bx, b_y) = S at *
  generalize hiOf S = S1 at *
  generalize hiOf (C * C) = C1 at *
  generalize loOf (C * C) = C0 at *
  generalize hiOf (C * C / lowG (C * C) S) = x1 at *
  generalize loOf (C * C / lowG (C * C) S) = x2 at *
  generalize S / lowG (C * C) S = x3 at *
  have HS := Lib.hid hS; have HCC := Lib.hid hcc; have HEC := Lib.hid eC
  clear hS hcc eC eL hsq hpos hlt hC hi ne
  have hfd : ∀ w : World, (Instr.field 54 (.agg #[.int .u64 S1, .int .u64 S]) 1).run Try.prog w = .ok (.int .u64 S) w := fun _ => by kernel_rfl
  go_enter Try.func24, Try.ntmps24
  go_wp2_with fail
  refine (point_any _ _ _).mono ?_; rintro e w1 ⟨rfl, hB1⟩; obtain ⟨hc1, hf1⟩ := keep hB1; have hz1 := hB1.size; try simp at hz1
  go_wp2_with fail
  refine (point_any _ _ _).mono ?_; rintro e w2 ⟨rfl, hB2⟩; obtain ⟨hc2, hf2⟩ := keep hB2; have hz2 := hB2.size; try simp at hz2
  go_wp2_with fail
  refine (point_any _ _ _).mono ?_; rintro e w3 ⟨rfl, hB3⟩; obtain ⟨hc3, hf3⟩ := keep hB3; have hz3 := hB3.size; try simp at hz3
  go_wp2_with fail
  refine (rdot_any _ _ _ _ _ _ ha hb hp _).mono ?_; rintro e w4 ⟨rfl, hB4⟩; obtain ⟨hc4, hf4⟩ := keep hB4; have hz4 := hB4.size; try simp at hz4
  go_wp2_with fail
  refine (rdot_any _ _ _ _ _ _ hb ha hp _).mono ?_; rintro e w5 ⟨rfl, hB5⟩; obtain ⟨hc5, hf5⟩ := keep hB5; have hz5 := hB5.size; try simp at hz5
  go_wp2_with fail
  have c0 : w5.cell? ⟨w.heap.size, 0, none⟩ = some (.int .i64 ax) := by go_simp
  have c1 : w5.cell? ⟨w.heap.size, 1, none⟩ = some (.int .i64 ay) := by go_simp
  have c2 : w5.cell? ⟨w.heap.size + 1, 0, none⟩ = some (.int .i64 bx) := by go_simp
  have c3 : w5.cell? ⟨w.heap.size + 1, 1, none⟩ = some (.int .i64 b_y) := by go_simp
  have c4 : w5.cell? ⟨w.heap.size + 1 + 1, 0, none⟩ = some (.int .i64 px) := by go_simp
  have c5 : w5.cell? ⟨w.heap.size + 1 + 1, 1, none⟩ = some (.int .i64 py) := by go_simp
  have c6 : w5.cell? ⟨w.heap.size + 1 + 1 + 1, 0, none⟩ = some (.int .u64 0) := by go_simp
  have c7 : w5.cell? ⟨w.heap.size + 1 + 1 + 1, 1, none⟩ = some (.int .u64 0) := by go_simp
  have c8 : w5.cell? ⟨w.heap.size + 1 + 1 + 1, 2, none⟩ = some (.int .u64 0) := by go_simp
  have f0 : w5.frozen? ⟨w.heap.size + 1 + 1 + 1, 0, none⟩ = false := by go_simp
  have f1 : w5.frozen? ⟨w.heap.size + 1 + 1 + 1, 1, none⟩ = false := by go_simp
  have f2 : w5.frozen? ⟨w.heap.size + 1 + 1 + 1, 2, none⟩ = false := by go_simp
  clear hc1 hf1 hc2 hf2 hc3 hf3 hc4 hf4 hc5 hf5
  have hB : Below w.heap.size w w5 := by (repeat' (first | (with_reducible exact Below.refl _ _) | (with_reducible assumption) | (with_reducible refine Below.alloc ?_ ?_ _) | (with_reducible refine Below.drew ?_) | (with_reducible refine Below.setCell ?_ ?_ _) | (with_reducible refine below_call (by with_reducible assumption) ?_ ?_) | (first | (with_reducible exact Nat.le_refl _) | (with_reducible assumption) | omega | (simp; done) | (simp; omega))))
  have hzw := hB.size
  clear hB1 hB2 hB3 hB4 hB5 h1 h2 h3 ha hb hp hd1 hd2 hne
  have ew1 : IntKind.i64.wrap (ax - bx) = ax - bx := IntWalk.i64_in _ (by omega)
  have ew2 : IntKind.i64.wrap (ay - b_y) = ay - b_y := IntWalk.i64_in _ (by omega)
  clear a1 a2 a3 a4 b1 b2 b3 b4
  (refine wp_region_bar 18 (by kernel_rfl) (by kernel_rfl) (by kernel_rfl) ?_; change StepsT _ _ _ _ [_, _, _, _, _, _, _, _, _, _, _, _, _, _, _, _, _, _] _; (repeat (first | (refine stepT_val (v := ?_) (by rfl) ?_ ?_; rotate_left; (· (intro z hz; obtain ⟨hc, hf⟩ := keep hz; go_simp; first | done | (with_reducible rfl))); (try simp only [Act.put, List.setIfInBounds_toArray, List.set_cons_zero, List.set_cons_succ])) | (refine stepT_skip (by rfl) ?_; (try simp only [Act.put, List.setIfInBounds_toArray, List.set_cons_zero, List.set_cons_succ])) | (refine stepT_call (v := ?_) (f := ?_) (args := ?_) (by rfl) ?_ ?_ ?_; rotate_left; rotate_left; rotate_left; (· (intro z hz; go_simp; first | done | (with_reducible rfl) | (constructor <;> with_reducible rfl))); (· (intro z hz; first | (go_at_call 40; refine (HC _).mono ?_; rintro e w' ⟨rfl, hB⟩; refine ⟨?_, hz.trans (hB.mono hz.size)⟩; with_reducible rfl) | (go_at_call 44; refine (HW _).mono ?_; rintro e w' ⟨rfl, hB⟩; refine ⟨?_, hz.trans (hB.mono hz.size)⟩; with_reducible rfl) | (go_at_call 39; refine (HQ _).mono ?_; rintro e w' ⟨rfl, hB⟩; refine ⟨?_, hz.trans (hB.mono hz.size)⟩; with_reducible rfl) | (go_at_call 38; refine (HM _).mono ?_; rintro e w' ⟨rfl, hB⟩; refine ⟨?_, hz.trans (hB.mono hz.size)⟩; with_reducible rfl))); (try simp only [Act.put, List.setIfInBounds_toArray, List.set_cons_zero, List.set_cons_succ])))); refine stepT_end ?_; intro z0 hz0; obtain ⟨hc0, hf0⟩ := keep hz0; have hs0 := hz0.size; (try simp at hs0); refine bar_store (z' := ?_) (by rfl) (by rfl) (by rfl) ?_ ?_; rotate_left; (· (go_simp; first | done | (with_reducible rfl) | (constructor <;> with_reducible rfl))); change Steps _ _ _ _ [] _; refine steps_end ?_; rintro _ rfl)
  go_wp2
  exact bodyPost_ret (v := .agg #[.int .u64 x1, .int .u64 x2, .int .u64 x3]) (by simp [*, results, Try.results24, go_sem]) rfl ⟨rfl, by (repeat' (first | (with_reducible exact Below.refl _ _) | (with_reducible assumption) | (with_reducible refine Below.alloc ?_ ?_ _) | (with_reducible refine Below.drew ?_) | (with_reducible refine Below.setCell ?_ ?_ _) | (with_reducible refine below_call (by with_reducible assumption) ?_ ?_) | (first | (with_reducible exact Nat.le_refl _) | (with_reducible assumption) | omega | (simp; done) | (simp; omega))))⟩
end Go.Proofs.Ytocpdphchignpaa
