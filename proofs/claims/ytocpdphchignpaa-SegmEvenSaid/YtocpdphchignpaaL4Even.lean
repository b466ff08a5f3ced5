/- SegmEven: it does not matter which segment is first, nor which way it goes. For every four points; no condition. -/
import Derived.Test.YtocpdphchignpaaL4Awake
import Derived.Test.YtocpdphchignpaaOpenPt
namespace Go.Proofs.Ytocpdphchignpaa
open Go.ChangeShapes Go.WideShapes Go.ChangeAt Go.RowKit

theorem ok4_swap (a b c d : Int × Int) : ok4 c d a b = ok4 a b c d := by cases h1 : okB a <;> cases h2 : okB b <;> cases h3 : okB c <;> cases h4 : okB d <;> simp [ok4, h1, h2, h3, h4]
theorem ok4_flip (a b c d : Int × Int) : ok4 a b d c = ok4 a b c d := by simp [ok4, Bool.and_comm]
theorem ok4_flip' (a b c d : Int × Int) : ok4 b a c d = ok4 a b c d := by simp [ok4, Bool.and_left_comm]
theorem ok3_flip (a b c : Int × Int) : ok3 b a c = ok3 a b c := by simp [ok3, Bool.and_left_comm]
theorem meetV_swap (a b c d : Int × Int) : meetV c d a b = meetV a b c d := by
  rw [Bool.eq_iff_iff, meetV_iff, meetV_iff, ok4_swap]
  exact and_congr_right fun _ => ⟨meetP_swap, meetP_swap⟩
theorem meetV_flip (a b c d : Int × Int) : meetV a b d c = meetV a b c d := by
  rw [Bool.eq_iff_iff, meetV_iff, meetV_iff, ok4_flip]
  exact and_congr_right fun _ => ⟨meetP_flip, meetP_flip⟩
theorem meetV_flip' (a b c d : Int × Int) : meetV b a c d = meetV a b c d := by
  rw [← meetV_swap, meetV_flip, meetV_swap]
theorem properV_even (a b c d : Int × Int) : properV c d b a = properV a b c d := by
  rw [Bool.eq_iff_iff, properV_iff, properV_iff, ok4_flip, ok4_swap]
  refine and_congr_right fun _ => ⟨fun h => ?_, fun h => ?_⟩
  · have := properP_flip h; exact ⟨this.2, this.1⟩
  · exact properP_flip ⟨h.2, h.1⟩
theorem onV_flip (a b p : Int × Int) : onV b a p = onV a b p := by
  rw [Bool.eq_iff_iff, onV_iff, onV_iff, ok3_flip]
  exact and_congr_right fun _ => ⟨onP_flip, onP_flip⟩
theorem proper_meets {a b c d : Int × Int} (h : properV a b c d = true) : meetV a b c d = true := by
  rw [properV_iff] at h; rw [meetV_iff]; exact ⟨h.1, .inl h.2⟩
theorem segH_flip (a b p : Int × Int) : segH b a p = segH a b p := by unfold segH; rw [ok3_flip, (seg_flip a b p).1, (seg_flip a b p).2]
theorem segL_flip (a b p : Int × Int) : segL b a p = segL a b p := by unfold segL; rw [ok3_flip, (seg_flip a b p).1, (seg_flip a b p).2]
theorem segE_flip (a b p : Int × Int) : segE b a p = segE a b p := by unfold segE; rw [ok3_flip, (seg_flip a b p).1, (seg_flip a b p).2]

set_option maxRecDepth 100000 in
set_option maxHeartbeats 4000000 in
theorem even_walk (ax ay bx b_y cx cy dx dy : Int) (w : World) :
    Calls Try.prog 3 #[.agg #[.int .i64 ax, .int .i64 ay], .agg #[.int .i64 bx, .int .i64 b_y], .agg #[.int .i64 cx, .int .i64 cy], .agg #[.int .i64 dx, .int .i64 dy]] w fun e w' => e = .returned (.bool true) ∧ Below w.heap.size w w' := by
  have m1 := meetV_swap (ax, ay) (bx, b_y) (cx, cy) (dx, dy)
  have m2 := meetV_flip' (ax, ay) (bx, b_y) (cx, cy) (dx, dy)
  have m3 := meetV_flip (ax, ay) (bx, b_y) (cx, cy) (dx, dy)
  have p1 := properV_even (ax, ay) (bx, b_y) (cx, cy) (dx, dy)
  have o1 := onV_flip (ax, ay) (bx, b_y) (cx, cy)
  have d1 := segH_flip (ax, ay) (bx, b_y) (cx, cy)
  have d2 := segL_flip (ax, ay) (bx, b_y) (cx, cy)
  have d3 := segE_flip (ax, ay) (bx, b_y) (cx, cy)
  have hpm := proper_meets (a := (ax, ay)) (b := (bx, b_y)) (c := (cx, cy)) (d := (dx, dy))
  cases hP : properV (ax, ay) (bx, b_y) (cx, cy) (dx, dy)
  · rw [hP] at p1
    clear hpm
    go_enter Try.func3, Try.ntmps3
    go_wp2_with fail
    refine (meet_any _ _ _ _ _ _ _ _ _).mono ?_; rintro e w1 ⟨rfl, hB1⟩; obtain ⟨hc1, hf1⟩ := keep hB1; have hz1 := hB1.size; try simp at hz1
    go_wp2_with fail
    refine (proper_any _ _ _ _ _ _ _ _ _).mono ?_; rintro e w2 ⟨rfl, hB2⟩; obtain ⟨hc2, hf2⟩ := keep hB2; have hz2 := hB2.size; try simp at hz2
    go_wp2_with fail
    (refine wp_region_text (by kernel_rfl) (by kernel_rfl) ?_; (repeat (first | (refine step_val (v := ?_) (by rfl) ?_ ?_; rotate_left; (· (intro z hz; obtain ⟨hc, hf⟩ := keep hz; go_simp; first | done | (with_reducible rfl))); (try simp only [Act.put, List.setIfInBounds_toArray, List.set_cons_zero, List.set_cons_succ])) | (refine step_skip (by rfl) ?_; (try simp only [Act.put, List.setIfInBounds_toArray, List.set_cons_zero, List.set_cons_succ])) | (refine step_call (v := ?_) (f := ?_) (args := ?_) (by rfl) ?_ ?_ ?_; rotate_left; rotate_left; rotate_left; (· (intro z hz; go_simp; first | done | (with_reducible rfl) | (constructor <;> with_reducible rfl))); (· (intro z hz; first | (go_at_call 10; refine (meet_any _ _ _ _ _ _ _ _ _).mono ?_; rintro e w' ⟨rfl, hB⟩; refine ⟨?_, hz.trans (hB.mono hz.size)⟩; with_reducible rfl) | (go_at_call 11; refine (proper_any _ _ _ _ _ _ _ _ _).mono ?_; rintro e w' ⟨rfl, hB⟩; refine ⟨?_, hz.trans (hB.mono hz.size)⟩; with_reducible rfl) | (go_at_call 12; refine (on_any _ _ _ _ _ _ _).mono ?_; rintro e w' ⟨rfl, hB⟩; refine ⟨?_, hz.trans (hB.mono hz.size)⟩; with_reducible rfl) | (go_at_call 13; refine (sdist_w _ _ _ _ _ _ _).mono ?_; rintro e w' ⟨rfl, hB⟩; refine ⟨?_, hz.trans (hB.mono hz.size)⟩; with_reducible rfl) | (go_at_call 14; refine (awake4_any _).mono ?_; rintro e w' ⟨rfl, hB⟩; refine ⟨?_, hz.trans (hB.mono hz.size)⟩; with_reducible rfl))); (try simp only [Act.put, List.setIfInBounds_toArray, List.set_cons_zero, List.set_cons_succ])))); refine steps_end ?_; intro w' hB; obtain ⟨hc, hf⟩ := keep hB; have hz := hB.size; try simp at hz)
    go_wp2
    go_ret
    exact ⟨rfl, by (repeat' (first | (with_reducible exact Below.refl _ _) | (with_reducible assumption) | (with_reducible refine Below.alloc ?_ ?_ _) | (with_reducible refine Below.drew ?_) | (with_reducible refine Below.setCell ?_ ?_ _) | (with_reducible refine below_call (by with_reducible assumption) ?_ ?_) | (first | (with_reducible exact Nat.le_refl _) | (with_reducible assumption) | omega | (simp; done) | (simp; omega))))⟩
  · have hM := hpm hP
    rw [hP] at p1
    rw [hM] at m1 m2 m3
    clear hpm
    go_enter Try.func3, Try.ntmps3
    go_wp2_with fail
    refine (meet_any _ _ _ _ _ _ _ _ _).mono ?_; rintro e w1 ⟨rfl, hB1⟩; obtain ⟨hc1, hf1⟩ := keep hB1; have hz1 := hB1.size; try simp at hz1
    go_wp2_with fail
    refine (proper_any _ _ _ _ _ _ _ _ _).mono ?_; rintro e w2 ⟨rfl, hB2⟩; obtain ⟨hc2, hf2⟩ := keep hB2; have hz2 := hB2.size; try simp at hz2
    go_wp2_with fail
    (refine wp_region_text (by kernel_rfl) (by kernel_rfl) ?_; (repeat (first | (refine step_val (v := ?_) (by rfl) ?_ ?_; rotate_left; (· (intro z hz; obtain ⟨hc, hf⟩ := keep hz; go_simp; first | done | (with_reducible rfl))); (try simp only [Act.put, List.setIfInBounds_toArray, List.set_cons_zero, List.set_cons_succ])) | (refine step_skip (by rfl) ?_; (try simp only [Act.put, List.setIfInBounds_toArray, List.set_cons_zero, List.set_cons_succ])) | (refine step_call (v := ?_) (f := ?_) (args := ?_) (by rfl) ?_ ?_ ?_; rotate_left; rotate_left; rotate_left; (· (intro z hz; go_simp; first | done | (with_reducible rfl) | (constructor <;> with_reducible rfl))); (· (intro z hz; first | (go_at_call 10; refine (meet_any _ _ _ _ _ _ _ _ _).mono ?_; rintro e w' ⟨rfl, hB⟩; refine ⟨?_, hz.trans (hB.mono hz.size)⟩; with_reducible rfl) | (go_at_call 11; refine (proper_any _ _ _ _ _ _ _ _ _).mono ?_; rintro e w' ⟨rfl, hB⟩; refine ⟨?_, hz.trans (hB.mono hz.size)⟩; with_reducible rfl) | (go_at_call 12; refine (on_any _ _ _ _ _ _ _).mono ?_; rintro e w' ⟨rfl, hB⟩; refine ⟨?_, hz.trans (hB.mono hz.size)⟩; with_reducible rfl) | (go_at_call 13; refine (sdist_w _ _ _ _ _ _ _).mono ?_; rintro e w' ⟨rfl, hB⟩; refine ⟨?_, hz.trans (hB.mono hz.size)⟩; with_reducible rfl) | (go_at_call 14; refine (awake4_any _).mono ?_; rintro e w' ⟨rfl, hB⟩; refine ⟨?_, hz.trans (hB.mono hz.size)⟩; with_reducible rfl))); (try simp only [Act.put, List.setIfInBounds_toArray, List.set_cons_zero, List.set_cons_succ])))); refine steps_end ?_; intro w' hB; obtain ⟨hc, hf⟩ := keep hB; have hz := hB.size; try simp at hz)
    go_wp2
    go_ret
    exact ⟨rfl, by (repeat' (first | (with_reducible exact Below.refl _ _) | (with_reducible assumption) | (with_reducible refine Below.alloc ?_ ?_ _) | (with_reducible refine Below.drew ?_) | (with_reducible refine Below.setCell ?_ ?_ _) | (with_reducible refine below_call (by with_reducible assumption) ?_ ?_) | (first | (with_reducible exact Nat.le_refl _) | (with_reducible assumption) | omega | (simp; done) | (simp; omega))))⟩

set_option maxRecDepth 100000 in
theorem even_lifted (os : Os) (started : os.Started) (H : Type) (enc : TypeId × Value → H) :
    ReturnsInHanded {} Try.checked os 3 .any (Rows.segmEvenSpec.pre6 enc Try.prog Try.f3 Rows.segmEvenRow.domain false) (Rows.segmEvenSpec.post enc Try.prog Try.f3 false true false false) := by
  refine returnsInHanded_of_change (C := Try.checked) own started (by kernel_rfl) Try.func3
    (ChangeSpec.witness6 (enc := enc) (C := Try.checked) false ⟨#[], #[.agg #[.int .i64 0, .int .i64 0], .agg #[.int .i64 0, .int .i64 0], .agg #[.int .i64 0, .int .i64 0], .agg #[.int .i64 0, .int .i64 0]], []⟩ 8 (by kernel_rfl) (by kernel_rfl) (by kernel_rfl) (by kernel_rfl)) ?_
  intro W base args ds gs before hval0 hW _ _
  have hval : ∀ (j : Nat) t v, Try.f3.params[j]? = some t → args[j]? = some v → Value.okWide Try.prog W .any base t v := hval0
  have hW' := hW
  obtain ⟨p, q, hA0, hV, rfl, _, _⟩ := hW
  have hA : DataW.TrodAll enc Try.prog W 0 (fun _ => true) true Try.f3.params.toList args.toList ds p := hA0
  rw [Try.params3] at hA hval
  obtain ⟨v0, vs0, d0, ds0, p0, q0, hargs, rfl, rfl, h0, r0⟩ := trodAll_cons hA
  obtain ⟨v1, vs1, d1, ds1, p1, q1, rfl, rfl, rfl, h1, r1⟩ := trodAll_cons r0
  obtain ⟨v2, vs2, d2, ds2, p2, q2, rfl, rfl, rfl, h2, r2⟩ := trodAll_cons r1
  obtain ⟨v3, vs3, d3, ds3, p3, q3, rfl, rfl, rfl, h3, r3⟩ := trodAll_cons r2
  obtain ⟨rfl, rfl, rfl⟩ := trodAll_nil r3
  obtain rfl : args = #[v0, v1, v2, v3] := by cases args; simp_all
  obtain ⟨rfl, rfl⟩ := trodVars_none hV
  obtain ⟨x0a, x0b, rfl, wx0a, wx0b⟩ := open_pt (hval 0 23 v0 rfl rfl) h0
  obtain ⟨x1a, x1b, rfl, wx1a, wx1b⟩ := open_pt (hval 1 23 v1 rfl rfl) h1
  obtain ⟨x2a, x2b, rfl, wx2a, wx2b⟩ := open_pt (hval 2 23 v2 rfl rfl) h2
  obtain ⟨x3a, x3b, rfl, wx3a, wx3b⟩ := open_pt (hval 3 23 v3 rfl rfl) h3
  refine (even_walk _ _ _ _ _ _ _ _ W).mono fun e W' ⟨he, hb⟩ => ?_
  subst he
  exact ⟨_, rfl, post_true laidOut (by kernel_rfl) rfl hW' hb (trodAll_mk1 (shut_bool Try.underlying4 _)) rfl rfl⟩

theorem even_holds : Rows.SegmEvenSaid :=
  OpenClaim.holds_of_wide 3 Try.f3 rfl rfl rfl rfl rfl rfl rfl ⟨rfl, rfl, rfl, rfl, rfl⟩ rfl rfl rfl rfl rfl (by kernel_rfl) Try.func3 (by kernel_rfl)
    (of_decide_eq_true (by kernel_rfl)) (by unfold Func.isWrapper; rw [if_neg (of_decide_eq_false (by kernel_rfl))]; exact ⟨rfl, rfl⟩)
    (fun os started H enc _ => even_lifted os started H enc)
#print axioms even_holds
end Go.Proofs.Ytocpdphchignpaa
