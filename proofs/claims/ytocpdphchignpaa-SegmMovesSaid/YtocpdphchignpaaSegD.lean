/- segm: Dist. -/
import Derived.Test.YtocpdphchignpaaSegC
import Derived.Test.YtocpdphchignpaaSegDistMath
import Derived.Test.YtocpdphchignpaaRatioA
import Derived.Test.YtocpdphchignpaaEq
import Derived.Test.YtocpdphchignpaaRegionCell
namespace Go.Proofs.Ytocpdphchignpaa
open Go.RowKit

theorem dotV_dt (o a b : Int × Int) : dotV o a b = dt o a b := rfl
theorem crossV_cr {a b c : Int × Int} (h : ok3 a b c = true) : crossV a b c = cr a b c := by unfold crossV cr; rw [if_pos h]
/-- The three words of a fraction in lowest terms. -/
def lowD (N D : Int) : Value := .agg #[.int .u64 (hiOf (N / lowG N D)), .int .u64 (loOf (N / lowG N D)), .int .u64 (D / lowG N D)]
theorem lowD_one (N : Int) : lowD N 1 = .agg #[.int .u64 (hiOf N), .int .u64 (loOf N), .int .u64 1] := by unfold lowD; rw [lowG_one, Int.ediv_one]; rfl

set_option maxRecDepth 100000 in
set_option maxHeartbeats 4000000 in
theorem sdist_mid (ax ay bx b_y px py : Int) (ha : okB (ax, ay) = true) (hb : okB (bx, b_y) = true) (hp : okB (px, py) = true) (hne : eq2 ax ay bx b_y = false) (h1 : 0 < dotV (ax, ay) (bx, b_y) (px, py)) (h2 : 0 < dotV (bx, b_y) (ax, ay) (px, py)) (w : World) :
    Calls Try.prog 13 #[.agg #[.int .i64 ax, .int .i64 ay], .agg #[.int .i64 bx, .int .i64 b_y], .agg #[.int .i64 px, .int .i64 py]] w fun e w' => e = .returned (lowD (cr (ax, ay) (bx, b_y) (px, py) * cr (ax, ay) (bx, b_y) (px, py)) (sqd (ax, ay) (bx, b_y))) ∧ Below w.heap.size w w' := by
  have h3 : ok3 (ax, ay) (bx, b_y) (px, py) = true := (ok3_iff _ _ _).2 ⟨ha, hb, hp⟩
  have hC := crossV_bd (ax, ay) (bx, b_y) (px, py)
  have hi : Int64 (crossV (ax, ay) (bx, b_y) (px, py)) := by unfold Int64; omega
  have eC := crossV_cr h3
  have hd1 : decide (dotV (ax, ay) (bx, b_y) (px, py) ≤ 0) = false := by simpa using h1
  have hd2 : decide (dotV (bx, b_y) (ax, ay) (px, py) ≤ 0) = false := by simpa using h2
  have hS : sqN ax ay bx b_y = sqd (ax, ay) (bx, b_y) := by unfold sqN ok2; rw [ha, hb]; rfl
  have hSD : sqD ax ay bx b_y = 1 := by unfold sqD ok2; rw [ha, hb]; rfl
  have ne : (ax, ay) ≠ (bx, b_y) := by
    intro h; injection h with h h'; subst h; subst h'; simp at hne
  have hpos := sqd_pos ne
  have hlt : sqd (ax, ay) (bx, b_y) < 18446744073709551616 := by
    rw [okB_iff] at ha hb
    have m1 := mul_far (ax - bx) (ax - bx) (by omega) (by omega)
    have m2 := mul_far (ay - b_y) (ay - b_y) (by omega) (by omega)
    unfold sqd; simp only; omega
  have eL : loOf (sqd (ax, ay) (bx, b_y)) = sqd (ax, ay) (bx, b_y) := by unfold loOf; omega
  rw [← eC]
  generalize hcc : crossV (ax, ay) (bx, b_y) (px, py) = C at *
  have hsq := sq_big hi
  have HM := fun w => make_any (hiOf (C * C)) (loOf (C * C)) (sqd (ax, ay) (bx, b_y)) (hiOf_word _) (loOf_word _) ⟨Int.le_of_lt hpos, hlt⟩ hpos w
  rw [num_hl (by unfold Big; omega)] at HM
  have HQ := fun w => square_any ax ay bx b_y w
  rw [hS, hSD, eL] at HQ
  have HC := fun w => cross_any ax ay bx b_y px py w
  rw [hcc] at HC
  have HW := fun w => wsquare_any C hi w
  unfold lowD
  generalize sqd (ax, ay) (bx, b_y) = S at *
  generalize hiOf S = S1 at *
  generalize hiOf (C * C) = C1 at *
  generalize loOf (C * C) = C0 at *
  generalize hiOf (C * C / lowG (C * C) S) = x1 at *
  generalize loOf (C * C / lowG (C * C) S) = x2 at *
  generalize S / lowG (C * C) S = x3 at *
  have HS := Lib.hid hS; have HCC := Lib.hid hcc; have HEC := Lib.hid eC; have HSD := Lib.hid hSD
  clear hS hcc eC hSD eL hsq hpos hlt hC hi ne
  have hfd : ∀ w : World, (Instr.field 28 (.agg #[.int .u64 S1, .int .u64 S, .int .u64 1]) 1).run Try.prog w = .ok (.int .u64 S) w := fun _ => by kernel_rfl
  go_enter Try.func13, Try.ntmps13
  go_wp2_with fail
  refine (smay3 _ _ (by go_simp) ax ay bx b_y px py (by go_simp) (by go_simp) (by go_simp) (by go_simp) (by go_simp) (by go_simp)).mono ?_; rintro e w1 ⟨rfl, hB1⟩; obtain ⟨hc1, hf1⟩ := keep hB1; have hz1 := hB1.size; try simp at hz1
  go_wp2_with fail
  refine (sdot_any _ _ _ _ _ _ ha hb hp _).mono ?_; rintro e w2 ⟨rfl, hB2⟩; obtain ⟨hc2, hf2⟩ := keep hB2; have hz2 := hB2.size; try simp at hz2
  go_wp2_with fail
  refine (sdot_any _ _ _ _ _ _ hb ha hp _).mono ?_; rintro e w3 ⟨rfl, hB3⟩; obtain ⟨hc3, hf3⟩ := keep hB3; have hz3 := hB3.size; try simp at hz3
  go_wp2_with fail
  (refine wp_region_cell 13 14 7 28 #[.int .u64 0, .int .u64 0, .int .u64 0] #[.int .u64 x1, .int .u64 x2, .int .u64 x3] (by kernel_rfl) (by kernel_rfl) (by kernel_rfl) ⟨_, rfl, rfl, rfl, ?_⟩ ?_; (· (intro a z; go_simp; first | done | (with_reducible rfl) | rfl)); (repeat (first | (refine stepG_val (v := ?_) (by rfl) (by rfl) (by rfl) ?_ ?_; rotate_left; (· (intro z hz; obtain ⟨hc, hf⟩ := keep hz; go_simp; first | done | (with_reducible rfl))); (try simp only [Act.put, List.setIfInBounds_toArray, List.set_cons_zero, List.set_cons_succ])) | (refine stepG_skip (by rfl) (by rfl) (by rfl) ?_; (try simp only [Act.put, List.setIfInBounds_toArray, List.set_cons_zero, List.set_cons_succ])) | (refine stepG_call (v := ?_) (f := ?_) (args := ?_) (by rfl) (by rfl) (by rfl) ?_ ?_ ?_; rotate_left; rotate_left; rotate_left; (· (intro z hz; go_simp; first | done | (with_reducible rfl) | (constructor <;> with_reducible rfl))); (· (intro z hz; first | (go_at_call 35; refine (HC _).mono ?_; rintro e w' ⟨rfl, hB⟩; refine ⟨?_, hB⟩; with_reducible rfl) | (go_at_call 34; refine (HW _).mono ?_; rintro e w' ⟨rfl, hB⟩; refine ⟨?_, hB⟩; with_reducible rfl) | (go_at_call 32; refine (HQ _).mono ?_; rintro e w' ⟨rfl, hB⟩; refine ⟨?_, hB⟩; with_reducible rfl) | (go_at_call 33; refine (HM _).mono ?_; rintro e w' ⟨rfl, hB⟩; refine ⟨?_, hB⟩; with_reducible rfl))); (try simp only [Act.put, List.setIfInBounds_toArray, List.set_cons_zero, List.set_cons_succ])) | (refine stepG_new (by rfl) ?_; intro b hb0; (try simp only [Act.put, List.setIfInBounds_toArray, List.set_cons_zero, List.set_cons_succ])) | (refine stepG_store (by rfl) (by rfl) (by rfl) (by rfl) (by rfl) ?_ ?_; (· (intro z hb1 hk; have k0 := hk.cell 0; have g0 := hk.frozen 0; (try simp at k0); have k1 := hk.cell 1; have g1 := hk.frozen 1; (try simp at k1); have k2 := hk.cell 2; have g2 := hk.frozen 2; (try simp at k2); refine ⟨?_, ?_, ?_, ?_⟩; rotate_left; (· (go_simp; first | done | (with_reducible rfl) | (constructor <;> with_reducible rfl))); (· (intro W hb1 hW; exact (((hW.setCell hb1 _).setCell hb1 _).setCell hb1 _))); (· exact (((hk.set_ 0 (.int .u64 x1)).set_ 1 (.int .u64 x2)).set_ 2 (.int .u64 x3))))); (try simp only [Act.put, List.setIfInBounds_toArray, List.set_cons_zero, List.set_cons_succ])))); refine stepG_end ?_; intro w' hI; obtain ⟨hB, hbb, hbk⟩ := hI; obtain ⟨hc, hf⟩ := bkeep hB; have hz := hB.size; have hbl := hbk.lt; (try simp at hz); have hk0 := hbk.cell 0; have hg0 := hbk.frozen 0; (try simp at hk0); have hk1 := hbk.cell 1; have hg1 := hbk.frozen 1; (try simp at hk1); have hk2 := hbk.cell 2; have hg2 := hbk.frozen 2; (try simp at hk2))
  have r0 := hc (w.heap.size + 1 + 1 + 1) 0 (by omega)
  have r1 := hc (w.heap.size + 1 + 1 + 1) 1 (by omega)
  have r2 := hc (w.heap.size + 1 + 1 + 1) 2 (by omega)
  have s0 := hf (w.heap.size + 1 + 1 + 1) 0 (by omega)
  have s1 := hf (w.heap.size + 1 + 1 + 1) 1 (by omega)
  have s2 := hf (w.heap.size + 1 + 1 + 1) 2 (by omega)
  clear hc hf
  go_wp2
  exact bodyPost_ret (v := .agg #[.int .u64 x1, .int .u64 x2, .int .u64 x3]) (by simp [*, results, Try.results13, go_sem]) rfl ⟨rfl, by (repeat' (first | (with_reducible exact Below.refl _ _) | (with_reducible assumption) | (with_reducible refine Below.alloc ?_ ?_ _) | (with_reducible refine Below.drew ?_) | (with_reducible refine Below.setCell ?_ ?_ _) | (with_reducible refine below_call (by with_reducible assumption) ?_ ?_) | (first | (with_reducible exact Nat.le_refl _) | (with_reducible assumption) | omega | (simp; done) | (simp; omega))))⟩
end Go.Proofs.Ytocpdphchignpaa
