/- Packages wide and ratio: Compare, CompareProducts, each by what it answers. -/
import Derived.Test.YtamhngjhgdmgbaaWTimes
import Derived.Test.YtamhngjhgdmgbaaCmp
namespace Go.Proofs.Ytamhngjhgdmgbaa
open Go.RowKit

theorem cmp_words {ah al bh bl : Int} (h2 : Word al) (h4 : Word bl) : cmpV (num ah al) (num bh bl) = orV [cmpV ah bh, cmpV al bl] := by
  unfold Word at *
  simp only [orV]
  unfold cmpV num
  omega

set_option maxHeartbeats 2000000 in
theorem wcompare_any (ah al bh bl : Int) (h2 : Word al) (h4 : Word bl) (w : World) :
    Calls Try.prog 40 #[.agg #[.int .u64 ah, .int .u64 al], .agg #[.int .u64 bh, .int .u64 bl]] w fun e w' => e = .returned (.int .i64 (cmpV (num ah al) (num bh bl))) ∧ Below w.heap.size w w' := by
  rw [cmp_words h2 h4]
  clear h2 h4
  go_enter Try.func40, Try.ntmps40
  go_wp2_with fail
  (refine wp_region_bar 10 (by kernel_rfl) (by kernel_rfl) (by kernel_rfl) ?_; change StepsT _ _ _ _ [_, _, _, _, _, _, _, _, _, _] _; (repeat (first | (refine stepT_val (v := ?_) (by rfl) ?_ ?_; rotate_left; (· (intro z hz; obtain ⟨hc, hf⟩ := keep hz; go_simp; first | done | (with_reducible rfl))); (try simp only [Act.put, List.setIfInBounds_toArray, List.set_cons_zero, List.set_cons_succ])) | (refine stepT_skip (by rfl) ?_; (try simp only [Act.put, List.setIfInBounds_toArray, List.set_cons_zero, List.set_cons_succ])) | (refine stepT_call (v := ?_) (f := ?_) (args := ?_) (by rfl) ?_ ?_ ?_; rotate_left; rotate_left; rotate_left; (· (intro z hz; obtain ⟨hc, hf⟩ := keep hz; go_simp; first | done | (with_reducible rfl) | (constructor <;> with_reducible rfl))); (· (intro z hz; first | (go_at_call 39; refine (cmpU_any _ _ _).mono ?_; rintro e w' ⟨rfl, rfl⟩; refine ⟨?_, hz⟩; with_reducible rfl))); (try simp only [Act.put, List.setIfInBounds_toArray, List.set_cons_zero, List.set_cons_succ])))); refine stepT_end ?_; intro z0 hz0; obtain ⟨hc0, hf0⟩ := keep hz0; have hs0 := hz0.size; try simp at hs0); (refine bar_val (v := ?_) (z' := ?_) (by rfl) (by rfl) ?_ ?_; rotate_left; rotate_left; (· (go_simp; first | done | (with_reducible rfl) | (constructor <;> with_reducible rfl))); (try simp only [Act.put, List.setIfInBounds_toArray, List.set_cons_zero, List.set_cons_succ]); change Steps _ _ _ _ [_, _] _); ((repeat (first | (refine step_val (v := ?_) (by rfl) ?_ ?_; rotate_left; (· (intro z hz; obtain ⟨hc, hf⟩ := keep hz; go_simp; first | done | (with_reducible rfl))); (try simp only [Act.put, List.setIfInBounds_toArray, List.set_cons_zero, List.set_cons_succ])) | (refine step_skip (by rfl) ?_; (try simp only [Act.put, List.setIfInBounds_toArray, List.set_cons_zero, List.set_cons_succ])) | (refine step_call (v := ?_) (f := ?_) (args := ?_) (by rfl) ?_ ?_ ?_; rotate_left; rotate_left; rotate_left; (· (intro z hz; go_simp; first | done | (with_reducible rfl) | (constructor <;> with_reducible rfl))); (· (intro z hz; first | (go_at_call 39; refine (cmpU_any _ _ _).mono ?_; rintro e w' ⟨rfl, rfl⟩; refine ⟨?_, hz⟩; with_reducible rfl) | (go_at_call 25; obtain ⟨hc, hf⟩ := keep hz; have hzz := hz.size; try simp at hzz; refine (or2_any _ (cmpV ah bh) (cmpV al bl) _ (by go_simp) (by go_simp)).mono ?_; rintro e w' ⟨rfl, rfl⟩; refine ⟨?_, hz⟩; with_reducible rfl))); (try simp only [Act.put, List.setIfInBounds_toArray, List.set_cons_zero, List.set_cons_succ])))); refine steps_end ?_; intro w' hB; obtain ⟨hc, hf⟩ := keep hB; have hz := hB.size; try simp at hz)
  go_wp2
  go_ret
  exact ⟨rfl, by (repeat' (first | (with_reducible exact Below.refl _ _) | (with_reducible assumption) | (with_reducible refine Below.alloc ?_ ?_ _) | (with_reducible refine Below.drew ?_) | (with_reducible refine drewN_below ?_ _) | (with_reducible refine Below.setCell ?_ ?_ _) | (with_reducible refine below_call (by with_reducible assumption) ?_ ?_) | (first | (with_reducible exact Nat.le_refl _) | (with_reducible assumption) | omega | (simp; done) | (simp; omega))))⟩

theorem cmp_three' {x y : Int} (hx : 0 ≤ x ∧ x < 6277101735386680763835789423207666416102355444464034512896) (hy : 0 ≤ y ∧ y < 6277101735386680763835789423207666416102355444464034512896) :
    cmpV x y = orV [cmpV (topOf x) (topOf y), cmpV (num (hiOf x) (loOf x)) (num (hiOf y) (loOf y))] := by
  simp only [orV]
  unfold cmpV topOf num hiOf loOf; omega

set_option maxHeartbeats 2000000 in
theorem wcmpProducts_any (ah al b ch cl d : Int) (h1 : Word ah) (h2 : Word al) (h3 : Word b) (h4 : Word ch) (h5 : Word cl) (h6 : Word d) (w : World) :
    Calls Try.prog 34 #[.agg #[.int .u64 ah, .int .u64 al], .int .u64 b, .agg #[.int .u64 ch, .int .u64 cl], .int .u64 d] w fun e w' => e = .returned (.int .i64 (cmpV (num ah al * b) (num ch cl * d))) ∧ Below w.heap.size w w' := by
  rw [cmp_three' (num_mul_bd h1 h2 h3) (num_mul_bd h4 h5 h6)]
  go_enter Try.func34, Try.ntmps34
  go_wp2_with fail
  refine (wtimes_any _ _ _ h1 h2 h3 _).mono ?_; rintro e w1 ⟨rfl, hB1⟩; obtain ⟨hc1, hf1⟩ := keep hB1; have hz1 := hB1.size; try simp at hz1
  go_wp2_with fail
  refine (wtimes_any _ _ _ h4 h5 h6 _).mono ?_; rintro e w2 ⟨rfl, hB2⟩; obtain ⟨hc2, hf2⟩ := keep hB2; have hz2 := hB2.size; try simp at hz2
  clear h1 h2 h3 h4 h5 h6
  go_wp2_with fail
  (refine wp_region_bar 6 (by kernel_rfl) (by kernel_rfl) (by kernel_rfl) ?_; change StepsT _ _ _ _ [_, _, _, _, _, _] _; (repeat (first | (refine stepT_val (v := ?_) (by rfl) ?_ ?_; rotate_left; (· (intro z hz; obtain ⟨hc, hf⟩ := keep hz; go_simp; first | done | (with_reducible rfl))); (try simp only [Act.put, List.setIfInBounds_toArray, List.set_cons_zero, List.set_cons_succ])) | (refine stepT_skip (by rfl) ?_; (try simp only [Act.put, List.setIfInBounds_toArray, List.set_cons_zero, List.set_cons_succ])) | (refine stepT_call (v := ?_) (f := ?_) (args := ?_) (by rfl) ?_ ?_ ?_; rotate_left; rotate_left; rotate_left; (· (intro z hz; obtain ⟨hc, hf⟩ := keep hz; go_simp; first | done | (with_reducible rfl) | (constructor <;> with_reducible rfl))); (· (intro z hz; first | (go_at_call 39; refine (cmpU_any _ _ _).mono ?_; rintro e w' ⟨rfl, rfl⟩; refine ⟨?_, hz⟩; with_reducible rfl) | (go_at_call 40; refine (wcompare_any _ _ _ _ (loOf_word _) (loOf_word _) _).mono ?_; rintro e w' ⟨rfl, hB⟩; refine ⟨?_, hz.trans (hB.mono hz.size)⟩; with_reducible rfl))); (try simp only [Act.put, List.setIfInBounds_toArray, List.set_cons_zero, List.set_cons_succ])))); refine stepT_end ?_; intro z0 hz0; obtain ⟨hc0, hf0⟩ := keep hz0; have hs0 := hz0.size; try simp at hs0); (refine bar_val (v := ?_) (z' := ?_) (by rfl) (by rfl) ?_ ?_; rotate_left; rotate_left; (· (go_simp; first | done | (with_reducible rfl) | (constructor <;> with_reducible rfl))); (try simp only [Act.put, List.setIfInBounds_toArray, List.set_cons_zero, List.set_cons_succ]); change Steps _ _ _ _ [_, _] _); ((repeat (first | (refine step_val (v := ?_) (by rfl) ?_ ?_; rotate_left; (· (intro z hz; obtain ⟨hc, hf⟩ := keep hz; go_simp; first | done | (with_reducible rfl))); (try simp only [Act.put, List.setIfInBounds_toArray, List.set_cons_zero, List.set_cons_succ])) | (refine step_skip (by rfl) ?_; (try simp only [Act.put, List.setIfInBounds_toArray, List.set_cons_zero, List.set_cons_succ])) | (refine step_call (v := ?_) (f := ?_) (args := ?_) (by rfl) ?_ ?_ ?_; rotate_left; rotate_left; rotate_left; (· (intro z hz; go_simp; first | done | (with_reducible rfl) | (constructor <;> with_reducible rfl))); (· (intro z hz; first | (go_at_call 39; refine (cmpU_any _ _ _).mono ?_; rintro e w' ⟨rfl, rfl⟩; refine ⟨?_, hz⟩; with_reducible rfl) | (go_at_call 40; refine (wcompare_any _ _ _ _ (loOf_word _) (loOf_word _) _).mono ?_; rintro e w' ⟨rfl, hB⟩; refine ⟨?_, hz.trans (hB.mono hz.size)⟩; with_reducible rfl) | (go_at_call 25; obtain ⟨hc, hf⟩ := keep hz; have hzz := hz.size; try simp at hzz; refine (or2_any _ (cmpV (topOf (num ah al * b)) (topOf (num ch cl * d))) (cmpV (num (hiOf (num ah al * b)) (loOf (num ah al * b))) (num (hiOf (num ch cl * d)) (loOf (num ch cl * d)))) _ (by go_simp) (by go_simp)).mono ?_; rintro e w' ⟨rfl, rfl⟩; refine ⟨?_, hz⟩; with_reducible rfl))); (try simp only [Act.put, List.setIfInBounds_toArray, List.set_cons_zero, List.set_cons_succ])))); refine steps_end ?_; intro w' hB; obtain ⟨hc, hf⟩ := keep hB; have hz := hB.size; try simp at hz)
  go_wp2
  go_ret
  exact ⟨rfl, by (repeat' (first | (with_reducible exact Below.refl _ _) | (with_reducible assumption) | (with_reducible refine Below.alloc ?_ ?_ _) | (with_reducible refine Below.drew ?_) | (with_reducible refine drewN_below ?_ _) | (with_reducible refine Below.setCell ?_ ?_ _) | (with_reducible refine below_call (by with_reducible assumption) ?_ ?_) | (first | (with_reducible exact Nat.le_refl _) | (with_reducible assumption) | omega | (simp; done) | (simp; omega))))⟩
end Go.Proofs.Ytamhngjhgdmgbaa
