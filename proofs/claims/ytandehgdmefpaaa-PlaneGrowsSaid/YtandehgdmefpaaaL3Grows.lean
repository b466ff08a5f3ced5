/- PlaneGrows: a box grows by nothing for what is inside it; what it grows by and its area are the area of both; more to take in is no less. For every three boxes; no condition. -/
import Derived.Test.YtandehgdmefpaaaL3U
import Derived.Test.YtandehgdmefpaaaL3Awake
import Derived.Test.YtandehgdmefpaaaRefBox
import Derived.Test.YtandehgdmefpaaaOpenPt
import Derived.Test.YtandehgdmefpaaaRegion
namespace Go.Proofs.Ytandehgdmefpaaa
open Go.ChangeShapes Go.WideShapes Go.ChangeAt Go.RowKit

set_option maxHeartbeats 8000000 in
theorem grows_walk_ok (b1 b2 b3 b4 a1 a2 a3 a4 c1 c2 c3 c4 : Int) (w : World) (hB : boxB (b1, b2, b3, b4) = true) (hA : boxB (a1, a2, a3, a4) = true) (hC : boxB (c1, c2, c3, c4) = true) :
    Calls Try.prog 7 #[.agg #[.int .i64 b1, .int .i64 b2, .int .i64 b3, .int .i64 b4], .agg #[.int .i64 a1, .int .i64 a2, .int .i64 a3, .int .i64 a4], .agg #[.int .i64 c1, .int .i64 c2, .int .i64 c3, .int .i64 c4]] w fun e w' => e = .returned (.bool true) ∧ Below w.heap.size w w' := by
  have cA : boxCode a1 a2 a3 a4 = 0 := by simpa [boxB] using hA
  have cB : boxCode b1 b2 b3 b4 = 0 := by simpa [boxB] using hB
  have cC : boxCode c1 c2 c3 c4 = 0 := by simpa [boxB] using hC
  have u1 := unionV2 _ _ hB hA
  have u2 := unionV2 _ _ hA hC
  have e1 : errV (unionE [(b1, b2, b3, b4), (a1, a2, a3, a4)]) = .nilIface := by rw [unionE2, if_pos hB, if_pos hA]; rfl
  have e2 : errV (unionE [(a1, a2, a3, a4), (c1, c2, c3, c4)]) = .nilIface := by rw [unionE2, if_pos hA, if_pos hC]; rfl
  have s1 := growN_sum hB hA
  have g0 := areaN_big (b1, b2, b3, b4)
  have g1 : Big (growN (b1, b2, b3, b4) (a1, a2, a3, a4)) := by have := growN_bd hB hA; unfold Big; omega
  have s2 := growN_more hB hA hC
  have hm := uni_box hA hC
  have g2 : Big (growN (b1, b2, b3, b4) (uni (a1, a2, a3, a4) (c1, c2, c3, c4))) := by have := growN_bd hB hm; unfold Big; omega
  have hin : insideB a1 a2 a3 a4 b1 b2 b3 b4 = false ∨ (insideB a1 a2 a3 a4 b1 b2 b3 b4 = true ∧ eq2 (hiOf (growN (b1, b2, b3, b4) (a1, a2, a3, a4))) (loOf (growN (b1, b2, b3, b4) (a1, a2, a3, a4))) 0 0 = true) := by
    cases hi : insideB a1 a2 a3 a4 b1 b2 b3 b4
    · exact .inl rfl
    · refine .inr ⟨rfl, ?_⟩; rw [growN_inside (b := (b1, b2, b3, b4)) (c := (a1, a2, a3, a4)) hi hB hA]; rfl
  have ov : overB (areaN (uni (b1, b2, b3, b4) (a1, a2, a3, a4))) = false := by have := areaN_bd (uni (b1, b2, b3, b4) (a1, a2, a3, a4)); unfold overB; simp; omega
  generalize hu : uni (b1, b2, b3, b4) (a1, a2, a3, a4) = u at *
  generalize hv : uni (a1, a2, a3, a4) (c1, c2, c3, c4) = v at *
  obtain ⟨x1, x2, x3, x4⟩ := u
  obtain ⟨y1, y2, y3, y4⟩ := v
  have s3 : cmpV (growN (b1, b2, b3, b4) (a1, a2, a3, a4)) (growN (b1, b2, b3, b4) (y1, y2, y3, y4)) ≤ 0 := by unfold cmpV; omega
  clear hu hv hA hB hC hm s2
  rcases hin with k1 | ⟨k1, k2⟩
  all_goals
    go_enter Try.func7, Try.ntmps7
    go_wp2_with (first | (go_at_call 15; refine (rcheckBox_any _ _ _ _ _).mono ?_; rintro e w' ⟨rfl, hB⟩; obtain ⟨hc, hf⟩ := keep hB; have hz := hB.size; try simp at hz))
    refine (union2 _ _ (by simp) _ _ _ _ _ _ _ _ _).mono ?_; rintro e w1 ⟨rfl, hB1⟩; obtain ⟨hc1, hf1⟩ := keep hB1; have hz1 := hB1.size; try simp at hz1
    rw [u1, e1]
    go_wp2_with fail
    refine (union2 _ _ (by simp) _ _ _ _ _ _ _ _ _).mono ?_; rintro e w2 ⟨rfl, hB2⟩; obtain ⟨hc2, hf2⟩ := keep hB2; have hz2 := hB2.size; try simp at hz2
    rw [u2, e2]
    go_wp2_with fail
    go_region_held3 (fun z => z.cell? ⟨w.heap.size, 0, none⟩ = some (.int .i64 b1) ∧ z.cell? ⟨w.heap.size, 1, none⟩ = some (.int .i64 b2) ∧ z.cell? ⟨w.heap.size, 2, none⟩ = some (.int .i64 b3) ∧ z.cell? ⟨w.heap.size, 3, none⟩ = some (.int .i64 b4)
        ∧ z.cell? ⟨w.heap.size + 1, 0, none⟩ = some (.int .i64 a1) ∧ z.cell? ⟨w.heap.size + 1, 1, none⟩ = some (.int .i64 a2) ∧ z.cell? ⟨w.heap.size + 1, 2, none⟩ = some (.int .i64 a3) ∧ z.cell? ⟨w.heap.size + 1, 3, none⟩ = some (.int .i64 a4)
        ∧ z.cell? ⟨w1.heap.size, 0, none⟩ = some (.int .i64 x1) ∧ z.cell? ⟨w1.heap.size, 1, none⟩ = some (.int .i64 x2) ∧ z.cell? ⟨w1.heap.size, 2, none⟩ = some (.int .i64 x3) ∧ z.cell? ⟨w1.heap.size, 3, none⟩ = some (.int .i64 x4)
        ∧ z.cell? ⟨w2.heap.size, 0, none⟩ = some (.int .i64 y1) ∧ z.cell? ⟨w2.heap.size, 1, none⟩ = some (.int .i64 y2) ∧ z.cell? ⟨w2.heap.size, 2, none⟩ = some (.int .i64 y3) ∧ z.cell? ⟨w2.heap.size, 3, none⟩ = some (.int .i64 y4)) (simp [*, go_sem])
      (first | (go_at_call 27; refine (area_any _ _ _ _ _).mono ?_; rintro e w' ⟨rfl, hB⟩; obtain ⟨hc, hf⟩ := keep hB; have hz := hB.size; try simp at hz) | (go_at_call 28; refine (grow_any _ _ _ _ _ _ _ _ _).mono ?_; rintro e w' ⟨rfl, hB⟩; obtain ⟨hc, hf⟩ := keep hB; have hz := hB.size; try simp at hz) | (go_at_call 26; refine (u_any _ _ _).mono ?_; rintro e w' ⟨rfl, hB⟩; obtain ⟨hc, hf⟩ := keep hB; have hz := hB.size; try simp at hz) | (go_at_call 22; refine (radd_big _ _ g0 g1 _).mono ?_; rintro e w' ⟨rfl, hB⟩; obtain ⟨hc, hf⟩ := keep hB; have hz := hB.size; try simp at hz))
    all_goals
      go_wp2
      (refine wp_region_text (by kernel_rfl) (by kernel_rfl) ?_; (repeat (first | (refine step_val (v := ?_) (by rfl) ?_ ?_; rotate_left; (· (intro z hz; obtain ⟨hc, hf⟩ := keep hz; go_simp; first | done | (with_reducible rfl))); (try simp only [Act.put, List.setIfInBounds_toArray, List.set_cons_zero, List.set_cons_succ])) | (refine step_skip (by rfl) ?_; (try simp only [Act.put, List.setIfInBounds_toArray, List.set_cons_zero, List.set_cons_succ])) | (refine step_call (v := ?_) (f := ?_) (args := ?_) (by rfl) ?_ ?_ ?_; rotate_left; rotate_left; rotate_left; (· (intro z hz; go_simp; first | done | (with_reducible rfl) | (constructor <;> with_reducible rfl))); (· (intro z hz; first | (go_at_call 27; refine (area_any _ _ _ _ _).mono ?_; rintro e w' ⟨rfl, hB⟩; refine ⟨?_, hz.trans (hB.mono hz.size)⟩; with_reducible rfl) | (go_at_call 28; refine (grow_any _ _ _ _ _ _ _ _ _).mono ?_; rintro e w' ⟨rfl, hB⟩; refine ⟨?_, hz.trans (hB.mono hz.size)⟩; with_reducible rfl) | (go_at_call 26; refine (u_any _ _ _).mono ?_; rintro e w' ⟨rfl, hB⟩; refine ⟨?_, hz.trans (hB.mono hz.size)⟩; with_reducible rfl) | (go_at_call 20; refine (inside_any _ _ _ _ _ _ _ _ _).mono ?_; rintro e w' ⟨rfl, hB⟩; refine ⟨?_, hz.trans (hB.mono hz.size)⟩; with_reducible rfl) | (go_at_call 29; refine (rcompare_big _ _ g1 g2 _).mono ?_; rintro e w' ⟨rfl, hB⟩; refine ⟨?_, hz.trans (hB.mono hz.size)⟩; with_reducible rfl) | (go_at_call 14; refine (awake_any _).mono ?_; rintro e w' ⟨rfl, hB⟩; refine ⟨?_, hz.trans (hB.mono hz.size)⟩; with_reducible rfl))); (try simp only [Act.put, List.setIfInBounds_toArray, List.set_cons_zero, List.set_cons_succ])))); refine steps_end ?_; intro w' hB; obtain ⟨hc, hf⟩ := keep hB; have hz := hB.size; try simp at hz)
      go_wp2
      go_ret
      exact ⟨rfl, by (repeat' (first | (with_reducible exact Below.refl _ _) | (with_reducible assumption) | (with_reducible refine Below.alloc ?_ ?_ _) | (with_reducible refine Below.drew ?_) | (with_reducible refine Below.setCell ?_ ?_ _) | (with_reducible refine below_call (by with_reducible assumption) ?_ ?_) | (first | (with_reducible exact Nat.le_refl _) | (with_reducible assumption) | omega | (simp; done) | (simp; omega))))⟩

set_option maxHeartbeats 1000000 in
theorem grows_walk_no (b1 b2 b3 b4 a1 a2 a3 a4 c1 c2 c3 c4 : Int) (w : World) (h : (boxB (b1, b2, b3, b4) && (boxB (a1, a2, a3, a4) && boxB (c1, c2, c3, c4))) = false) :
    Calls Try.prog 7 #[.agg #[.int .i64 b1, .int .i64 b2, .int .i64 b3, .int .i64 b4], .agg #[.int .i64 a1, .int .i64 a2, .int .i64 a3, .int .i64 a4], .agg #[.int .i64 c1, .int .i64 c2, .int .i64 c3, .int .i64 c4]] w fun e w' => e = .returned (.bool true) ∧ Below w.heap.size w w' := by
  have k : (boxCode a1 a2 a3 a4 != 0) = true ∨ ((boxCode a1 a2 a3 a4 != 0) = false ∧ (boxCode b1 b2 b3 b4 != 0) = true) ∨ ((boxCode a1 a2 a3 a4 != 0) = false ∧ (boxCode b1 b2 b3 b4 != 0) = false ∧ (boxCode c1 c2 c3 c4 != 0) = true) := by
    unfold boxB at h
    dsimp only at h
    cases h1 : (boxCode a1 a2 a3 a4 == 0) <;> cases h2 : (boxCode b1 b2 b3 b4 == 0) <;> cases h3 : (boxCode c1 c2 c3 c4 == 0) <;> simp_all
  clear h
  rcases k with k1 | ⟨k1, k2⟩ | ⟨k1, k2, k3⟩
  all_goals
    go_enter Try.func7, Try.ntmps7
    go_wp2_with (first | (go_at_call 15; refine (rcheckBox_any _ _ _ _ _).mono ?_; rintro e w' ⟨rfl, hB⟩; obtain ⟨hc, hf⟩ := keep hB; have hz := hB.size; try simp at hz) | (go_at_call 14; refine (awake_any _).mono ?_; rintro e w' ⟨rfl, hB⟩; obtain ⟨hc, hf⟩ := keep hB; have hz := hB.size; try simp at hz))
    go_ret
    exact ⟨rfl, by (repeat' (first | (with_reducible exact Below.refl _ _) | (with_reducible assumption) | (with_reducible refine Below.alloc ?_ ?_ _) | (with_reducible refine Below.drew ?_) | (with_reducible refine Below.setCell ?_ ?_ _) | (with_reducible refine below_call (by with_reducible assumption) ?_ ?_) | (first | (with_reducible exact Nat.le_refl _) | (with_reducible assumption) | omega | (simp; done) | (simp; omega))))⟩

theorem grows_walk (b1 b2 b3 b4 a1 a2 a3 a4 c1 c2 c3 c4 : Int) (w : World) :
    Calls Try.prog 7 #[.agg #[.int .i64 b1, .int .i64 b2, .int .i64 b3, .int .i64 b4], .agg #[.int .i64 a1, .int .i64 a2, .int .i64 a3, .int .i64 a4], .agg #[.int .i64 c1, .int .i64 c2, .int .i64 c3, .int .i64 c4]] w fun e w' => e = .returned (.bool true) ∧ Below w.heap.size w w' := by
  cases h : (boxB (b1, b2, b3, b4) && (boxB (a1, a2, a3, a4) && boxB (c1, c2, c3, c4)))
  · exact grows_walk_no b1 b2 b3 b4 a1 a2 a3 a4 c1 c2 c3 c4 w h
  · simp only [Bool.and_eq_true] at h
    exact grows_walk_ok b1 b2 b3 b4 a1 a2 a3 a4 c1 c2 c3 c4 w h.1 h.2.1 h.2.2

set_option maxRecDepth 100000 in
theorem grows_lifted (os : Os) (started : os.Started) (H : Type) (enc : TypeId × Value → H) :
    ReturnsInHanded {} Try.checked os 7 .any (Rows.planeGrowsSpec.pre6 enc Try.prog Try.f7 Rows.planeGrowsRow.domain false) (Rows.planeGrowsSpec.post enc Try.prog Try.f7 false true false false) := by
  refine returnsInHanded_of_change (C := Try.checked) own started (by kernel_rfl) Try.func7
    (ChangeSpec.witness6 (enc := enc) (C := Try.checked) false ⟨#[], #[.agg #[.int .i64 0, .int .i64 0, .int .i64 0, .int .i64 0], .agg #[.int .i64 0, .int .i64 0, .int .i64 0, .int .i64 0], .agg #[.int .i64 0, .int .i64 0, .int .i64 0, .int .i64 0]], []⟩ 8 (by kernel_rfl) (by kernel_rfl) (by kernel_rfl) (by kernel_rfl)) ?_
  intro W base args ds gs before hval0 hW _ _
  have hval : ∀ (j : Nat) t v, Try.f7.params[j]? = some t → args[j]? = some v → Value.okWide Try.prog W .any base t v := hval0
  have hW' := hW
  obtain ⟨p, q, hA0, hV, rfl, _, _⟩ := hW
  have hA : DataW.TrodAll enc Try.prog W 0 (fun _ => true) true Try.f7.params.toList args.toList ds p := hA0
  rw [Try.params7] at hA hval
  obtain ⟨v0, vs0, d0, ds0, p0, q0, hargs, rfl, rfl, h0, r0⟩ := trodAll_cons hA
  obtain ⟨v1, vs1, d1, ds1, p1, q1, rfl, rfl, rfl, h1, r1⟩ := trodAll_cons r0
  obtain ⟨v2, vs2, d2, ds2, p2, q2, rfl, rfl, rfl, h2, r2⟩ := trodAll_cons r1
  obtain ⟨rfl, rfl, rfl⟩ := trodAll_nil r2
  obtain rfl : args = #[v0, v1, v2] := by cases args; simp_all
  obtain ⟨rfl, rfl⟩ := trodVars_none hV
  obtain ⟨x0a, x0b, x0c, x0d, rfl, wx0a, wx0b, wx0c, wx0d⟩ := open_box (hval 0 29 v0 rfl rfl) h0
  obtain ⟨x1a, x1b, x1c, x1d, rfl, wx1a, wx1b, wx1c, wx1d⟩ := open_box (hval 1 29 v1 rfl rfl) h1
  obtain ⟨x2a, x2b, x2c, x2d, rfl, wx2a, wx2b, wx2c, wx2d⟩ := open_box (hval 2 29 v2 rfl rfl) h2
  refine (grows_walk _ _ _ _ _ _ _ _ _ _ _ _ W).mono fun e W' ⟨he, hb⟩ => ?_
  subst he
  exact ⟨_, rfl, post_true laidOut (by kernel_rfl) rfl hW' hb (trodAll_mk1 (shut_bool Try.underlying4 _)) rfl rfl⟩

theorem grows_holds : Rows.PlaneGrowsSaid :=
  OpenClaim.holds_of_wide 7 Try.f7 rfl rfl rfl rfl rfl rfl rfl ⟨rfl, rfl, rfl, rfl, rfl⟩ rfl rfl rfl rfl rfl (by kernel_rfl) Try.func7 (by kernel_rfl)
    (of_decide_eq_true (by kernel_rfl)) (by unfold Func.isWrapper; rw [if_neg (of_decide_eq_false (by kernel_rfl))]; exact ⟨rfl, rfl⟩)
    (fun os started H enc _ => grows_lifted os started H enc)
#print axioms grows_holds
end Go.Proofs.Ytandehgdmefpaaa
