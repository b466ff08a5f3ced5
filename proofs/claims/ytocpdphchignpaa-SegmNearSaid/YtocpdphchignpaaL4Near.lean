/- SegmNear: a point is 0 away just if it is on the segment; it is not farther than the ends; it meets itself as a segment just if it is on it. For every three points; no condition. -/
import Derived.Test.YtocpdphchignpaaL4Math
import Derived.Test.YtocpdphchignpaaOpenPt
namespace Go.Proofs.Ytocpdphchignpaa
open Go.ChangeShapes Go.WideShapes Go.ChangeAt Go.RowKit

set_option maxRecDepth 100000 in
set_option maxHeartbeats 4000000 in
theorem near_walk (ax ay bx b_y px py : Int) (w : World) :
    Calls Try.prog 4 #[.agg #[.int .i64 ax, .int .i64 ay], .agg #[.int .i64 bx, .int .i64 b_y], .agg #[.int .i64 px, .int .i64 py]] w fun e w' => e = .returned (.bool true) ∧ Below w.heap.size w w' := by
  cases ha : okB (ax, ay) <;> cases hb : okB (bx, b_y) <;> cases hp : okB (px, py)
  case true.true.true =>
    have h3 : ok3 (ax, ay) (bx, b_y) (px, py) = true := (ok3_iff _ _ _).2 ⟨ha, hb, hp⟩
    have f1 := seg_on h3
    have f2 := meet_self h3
    have f3 := near_a h3
    have f4 := near_b h3
    obtain ⟨f5, f6⟩ := on_ends ha hb
    clear h3
    go_enter Try.func4, Try.ntmps4
    go_wp2_with fail
    refine (sdist_w _ _ _ _ _ _ _).mono ?_; rintro e w1 ⟨rfl, hB1⟩; obtain ⟨hc1, hf1⟩ := keep hB1; have hz1 := hB1.size; try simp at hz1
    go_wp2_with fail
    refine (on_any _ _ _ _ _ _ _).mono ?_; rintro e w2 ⟨rfl, hB2⟩; obtain ⟨hc2, hf2⟩ := keep hB2; have hz2 := hB2.size; try simp at hz2
    go_wp2_with fail
    refine (point_any _ _ _).mono ?_; rintro e w3 ⟨rfl, hB3⟩; obtain ⟨hc3, hf3⟩ := keep hB3; have hz3 := hB3.size; try simp at hz3
    go_wp2_with fail
    refine (point_any _ _ _).mono ?_; rintro e w4 ⟨rfl, hB4⟩; obtain ⟨hc4, hf4⟩ := keep hB4; have hz4 := hB4.size; try simp at hz4
    go_wp2_with fail
    refine (point_any _ _ _).mono ?_; rintro e w5 ⟨rfl, hB5⟩; obtain ⟨hc5, hf5⟩ := keep hB5; have hz5 := hB5.size; try simp at hz5
    go_wp2_with fail
    have c0 : w5.cell? ⟨w.heap.size, 0, none⟩ = some (.int .i64 ax) := by go_simp
    have c1 : w5.cell? ⟨w.heap.size, 1, none⟩ = some (.int .i64 ay) := by go_simp
    have c2 : w5.cell? ⟨w.heap.size + 1, 0, none⟩ = some (.int .i64 bx) := by go_simp
    have c3 : w5.cell? ⟨w.heap.size + 1, 1, none⟩ = some (.int .i64 b_y) := by go_simp
    have c4 : w5.cell? ⟨w.heap.size + 1 + 1, 0, none⟩ = some (.int .i64 px) := by go_simp
    have c5 : w5.cell? ⟨w.heap.size + 1 + 1, 1, none⟩ = some (.int .i64 py) := by go_simp
    have c6 : w5.cell? ⟨w1.heap.size, 0, none⟩ = some (.int .u64 (segH (ax, ay) (bx, b_y) (px, py))) := by go_simp
    have c7 : w5.cell? ⟨w1.heap.size, 1, none⟩ = some (.int .u64 (segL (ax, ay) (bx, b_y) (px, py))) := by go_simp
    have c8 : w5.cell? ⟨w1.heap.size, 2, none⟩ = some (.int .u64 (segE (ax, ay) (bx, b_y) (px, py))) := by go_simp
    clear hc1 hf1 hc2 hf2 hc3 hf3 hc4 hf4 hc5 hf5
    have hB : Below w.heap.size w w5 := by (repeat' (first | (with_reducible exact Below.refl _ _) | (with_reducible assumption) | (with_reducible refine Below.alloc ?_ ?_ _) | (with_reducible refine Below.drew ?_) | (with_reducible refine Below.setCell ?_ ?_ _) | (with_reducible refine below_call (by with_reducible assumption) ?_ ?_) | (first | (with_reducible exact Nat.le_refl _) | (with_reducible assumption) | omega | (simp; done) | (simp; omega))))
    have hzw := hB.size
    clear hB1 hB2 hB3 hB4 hB5
    (refine wp_region_text (by kernel_rfl) (by kernel_rfl) ?_; (repeat (first | (refine step_val (v := ?_) (by rfl) ?_ ?_; rotate_left; (· (intro z hz; obtain ⟨hc, hf⟩ := keep hz; go_simp; first | done | (with_reducible rfl))); (try simp only [Act.put, List.setIfInBounds_toArray, List.set_cons_zero, List.set_cons_succ])) | (refine step_skip (by rfl) ?_; (try simp only [Act.put, List.setIfInBounds_toArray, List.set_cons_zero, List.set_cons_succ])) | (refine step_call (v := ?_) (f := ?_) (args := ?_) (by rfl) ?_ ?_ ?_; rotate_left; rotate_left; rotate_left; (· (intro z hz; go_simp; first | done | (with_reducible rfl) | (constructor <;> with_reducible rfl))); (· (intro z hz; first | (go_at_call 10; refine (meet_any _ _ _ _ _ _ _ _ _).mono ?_; rintro e w' ⟨rfl, hB⟩; refine ⟨?_, hz.trans (hB.mono hz.size)⟩; with_reducible rfl) | (go_at_call 12; refine (on_any _ _ _ _ _ _ _).mono ?_; rintro e w' ⟨rfl, hB⟩; refine ⟨?_, hz.trans (hB.mono hz.size)⟩; with_reducible rfl) | (go_at_call 13; refine (sdist_w _ _ _ _ _ _ _).mono ?_; rintro e w' ⟨rfl, hB⟩; refine ⟨?_, hz.trans (hB.mono hz.size)⟩; with_reducible rfl) | (go_at_call 17; refine (rsq_w _ _ _ _ _).mono ?_; rintro e w' ⟨rfl, hB⟩; refine ⟨?_, hz.trans (hB.mono hz.size)⟩; with_reducible rfl) | (go_at_call 16; refine (rcd_seg _ _ _ _ _ _ _).mono ?_; rintro e w' ⟨rfl, hB⟩; refine ⟨?_, hz.trans (hB.mono hz.size)⟩; with_reducible rfl) | (go_at_call 14; refine (awake4_any _).mono ?_; rintro e w' ⟨rfl, hB⟩; refine ⟨?_, hz.trans (hB.mono hz.size)⟩; with_reducible rfl))); (try simp only [Act.put, List.setIfInBounds_toArray, List.set_cons_zero, List.set_cons_succ])))); refine steps_end ?_; intro w' hB; obtain ⟨hc, hf⟩ := keep hB; have hz := hB.size; try simp at hz)
    go_wp2
    go_ret
    exact ⟨rfl, by (repeat' (first | (with_reducible exact Below.refl _ _) | (with_reducible assumption) | (with_reducible refine Below.alloc ?_ ?_ _) | (with_reducible refine Below.drew ?_) | (with_reducible refine Below.setCell ?_ ?_ _) | (with_reducible refine below_call (by with_reducible assumption) ?_ ?_) | (first | (with_reducible exact Nat.le_refl _) | (with_reducible assumption) | omega | (simp; done) | (simp; omega))))⟩
  all_goals
    obtain ⟨z1, z2, z3, z4⟩ := seg_no (a := (ax, ay)) (b := (bx, b_y)) (p := (px, py)) (by unfold ok3; rw [ha, hb, hp]; rfl)
    go_enter Try.func4, Try.ntmps4
    go_wp2_with (first | (go_at_call 13; refine (sdist_w _ _ _ _ _ _ _).mono ?_; rintro e w' ⟨rfl, hB⟩; obtain ⟨hc, hf⟩ := keep hB; have hz := hB.size; try simp at hz) | (go_at_call 12; refine (on_any _ _ _ _ _ _ _).mono ?_; rintro e w' ⟨rfl, hB⟩; obtain ⟨hc, hf⟩ := keep hB; have hz := hB.size; try simp at hz) | (go_at_call 15; refine (point_any _ _ _).mono ?_; rintro e w' ⟨rfl, hB⟩; obtain ⟨hc, hf⟩ := keep hB; have hz := hB.size; try simp at hz) | (go_at_call 14; refine (awake4_any _).mono ?_; rintro e w' ⟨rfl, hB⟩; obtain ⟨hc, hf⟩ := keep hB; have hz := hB.size; try simp at hz))
    go_ret
    exact ⟨rfl, by (repeat' (first | (with_reducible exact Below.refl _ _) | (with_reducible assumption) | (with_reducible refine Below.alloc ?_ ?_ _) | (with_reducible refine Below.drew ?_) | (with_reducible refine Below.setCell ?_ ?_ _) | (with_reducible refine below_call (by with_reducible assumption) ?_ ?_) | (first | (with_reducible exact Nat.le_refl _) | (with_reducible assumption) | omega | (simp; done) | (simp; omega))))⟩

set_option maxRecDepth 100000 in
theorem near_lifted (os : Os) (started : os.Started) (H : Type) (enc : TypeId × Value → H) :
    ReturnsInHanded {} Try.checked os 4 .any (Rows.segmNearSpec.pre6 enc Try.prog Try.f4 Rows.segmNearRow.domain false) (Rows.segmNearSpec.post enc Try.prog Try.f4 false true false false) := by
  refine returnsInHanded_of_change (C := Try.checked) own started (by kernel_rfl) Try.func4
    (ChangeSpec.witness6 (enc := enc) (C := Try.checked) false ⟨#[], #[.agg #[.int .i64 0, .int .i64 0], .agg #[.int .i64 0, .int .i64 0], .agg #[.int .i64 0, .int .i64 0]], []⟩ 8 (by kernel_rfl) (by kernel_rfl) (by kernel_rfl) (by kernel_rfl)) ?_
  intro W base args ds gs before hval0 hW _ _
  have hval : ∀ (j : Nat) t v, Try.f4.params[j]? = some t → args[j]? = some v → Value.okWide Try.prog W .any base t v := hval0
  have hW' := hW
  obtain ⟨p, q, hA0, hV, rfl, _, _⟩ := hW
  have hA : DataW.TrodAll enc Try.prog W 0 (fun _ => true) true Try.f4.params.toList args.toList ds p := hA0
  rw [Try.params4] at hA hval
  obtain ⟨v0, vs0, d0, ds0, p0, q0, hargs, rfl, rfl, h0, r0⟩ := trodAll_cons hA
  obtain ⟨v1, vs1, d1, ds1, p1, q1, rfl, rfl, rfl, h1, r1⟩ := trodAll_cons r0
  obtain ⟨v2, vs2, d2, ds2, p2, q2, rfl, rfl, rfl, h2, r2⟩ := trodAll_cons r1
  obtain ⟨rfl, rfl, rfl⟩ := trodAll_nil r2
  obtain rfl : args = #[v0, v1, v2] := by cases args; simp_all
  obtain ⟨rfl, rfl⟩ := trodVars_none hV
  obtain ⟨x0a, x0b, rfl, wx0a, wx0b⟩ := open_pt (hval 0 23 v0 rfl rfl) h0
  obtain ⟨x1a, x1b, rfl, wx1a, wx1b⟩ := open_pt (hval 1 23 v1 rfl rfl) h1
  obtain ⟨x2a, x2b, rfl, wx2a, wx2b⟩ := open_pt (hval 2 23 v2 rfl rfl) h2
  refine (near_walk _ _ _ _ _ _ W).mono fun e W' ⟨he, hb⟩ => ?_
  subst he
  exact ⟨_, rfl, post_true laidOut (by kernel_rfl) rfl hW' hb (trodAll_mk1 (shut_bool Try.underlying4 _)) rfl rfl⟩

theorem near_holds : Rows.SegmNearSaid :=
  OpenClaim.holds_of_wide 4 Try.f4 rfl rfl rfl rfl rfl rfl rfl ⟨rfl, rfl, rfl, rfl, rfl⟩ rfl rfl rfl rfl rfl (by kernel_rfl) Try.func4 (by kernel_rfl)
    (of_decide_eq_true (by kernel_rfl)) (by unfold Func.isWrapper; rw [if_neg (of_decide_eq_false (by kernel_rfl))]; exact ⟨rfl, rfl⟩)
    (fun os started H enc _ => near_lifted os started H enc)
#print axioms near_holds
end Go.Proofs.Ytocpdphchignpaa
