/- pergolaref1: Mul. -/
import Derived.Test.YthamagnlpndnoaaDoorTimes
import Derived.Test.YthamagnlpndnoaaDoorWide
namespace Go.Proofs.YthamagnlpndnoaaDoor
open Go.RowKit

/-- Words of one number that a caller has laid. -/
theorem words1 (W : World) (b : Nat) (hb : b = W.heap.size) (t : TypeId) (x : Int) (hx : Word x) :
    Calls Tryd.prog 58 #[.slice (some ⟨b, 0, none⟩) 1 1] (W.alloc (.cells #[.int .u64 x] t)) fun e w' =>
      ∃ g cap, e = .returned (.slice (some ⟨g, 0, none⟩) 2 cap) ∧ NumsAt w' g (wordsOf [x]) ∧ Below (W.alloc (.cells #[.int .u64 x] t)).heap.size (W.alloc (.cells #[.int .u64 x] t)) w' ∧ g < w'.heap.size := by
  refine (words_any b [x] _ 1 (by simp) (by simp) (by omega) (by omega) (by simp [hb]) (by simpa using hx) (by subst hb; intro i hi; match i, hi with | 0, _ => simp)).mono ?_
  rintro e w' ⟨g, cap, he, h1, h2, _, h4⟩
  exact ⟨g, cap, he, h1, h2, h4⟩
theorem words2 (W : World) (b : Nat) (hb : b = W.heap.size) (t : TypeId) (x y : Int) (hx : Word x) (hy : Word y) :
    Calls Tryd.prog 58 #[.slice (some ⟨b, 0, none⟩) 2 2] (W.alloc (.cells #[.int .u64 x, .int .u64 y] t)) fun e w' =>
      ∃ g cap, e = .returned (.slice (some ⟨g, 0, none⟩) 4 cap) ∧ NumsAt w' g (wordsOf [x, y]) ∧ Below (W.alloc (.cells #[.int .u64 x, .int .u64 y] t)).heap.size (W.alloc (.cells #[.int .u64 x, .int .u64 y] t)) w' ∧ g < w'.heap.size := by
  refine (words_any b [x, y] _ 2 (by simp) (by simp) (by omega) (by omega) (by simp [hb]) (by intro z hz; simp at hz; rcases hz with rfl | rfl <;> assumption) (by subst hb; intro i hi; match i, hi with | 0, _ => simp | 1, _ => simp)).mono ?_
  rintro e w' ⟨g, cap, he, h1, h2, _, h4⟩
  exact ⟨g, cap, he, h1, h2, h4⟩

theorem NumsAt.keep {w w' : World} {g : Nat} {l : List Int} (h : NumsAt w g l) {B : Nat} (hb : Below B w w') (hg : g < B) : NumsAt w' g l := fun i hi => by
  rw [hb.cell (p := ⟨g, i, none⟩) hg]; exact h i hi

theorem times_at (ga gb n m ca cb : Nat) (xs ys : List Int) (w : World) (hn : xs.length = n) (hm : ys.length = m) (hn1 : n ≤ 100) (hm1 : m ≤ 100) (k : Nat) (hk : k = n + m) (hga : ga < w.heap.size) (hgb : gb < w.heap.size)
    (hsa : Small xs) (hsb : Small ys) (hpa : NumsAt w ga xs) (hpb : NumsAt w gb ys) :
    Calls Tryd.prog 57 #[.slice (some ⟨ga, 0, none⟩) n ca, .slice (some ⟨gb, 0, none⟩) m cb] w fun e w' =>
      ∃ (g : Nat) (os : List Int), e = .returned (.slice (some ⟨g, 0, none⟩) k k) ∧ os.length = k ∧ NumsAt w' g os ∧ Small os ∧ val os = val xs * val ys ∧ Below w.heap.size w w' ∧ g < w'.heap.size := by
  subst hn; subst hm; subst hk
  refine (times_any ga gb _ _ ca cb xs ys w (Nat.le_refl _) (Nat.le_refl _) (Nat.le_refl _) (Nat.le_refl _) hn1 hm1 hga hgb hsa hsb hpa hpb).mono ?_
  rintro e w' ⟨g, os, he, h1, h2, h3, h4, h5, _, h7⟩
  exact ⟨g, os, he, h1, h2, h3, h4, h5, h7⟩

theorem val4 {os : List Int} (hl : os.length = 4) (hs : Small os) {N : Int} (hv : val os = N) : os.getD 0 0 + os.getD 1 0 * 4294967296 = loOf N ∧ os.getD 2 0 + os.getD 3 0 * 4294967296 = hiOf N := by
  match os, hl with
  | [a, b, c, d], _ =>
    have h0 := hs 0; have h1 := hs 1; have h2 := hs 2; have h3 := hs 3
    simp only [List.getD_cons_zero, List.getD_cons_succ] at *
    simp only [val, B32] at hv
    unfold loOf hiOf
    omega

theorem join_at (g n cap : Nat) (l : List Int) (k : Int) (R : Int) (w : World) (hk0 : 0 ≤ k) (hk1 : k ≤ 100) (hl : 2 * k.toNat + 1 < l.length) (hn : l.length ≤ n) (hs : Small l) (hp : NumsAt w g l) (hR : l.getD (2 * k.toNat) 0 + l.getD (2 * k.toNat + 1) 0 * 4294967296 = R) :
    Calls Tryd.prog 59 #[.slice (some ⟨g, 0, none⟩) n cap, .int .i64 k] w fun e w' => e = .returned (.int .u64 R) ∧ Below w.heap.size w w' := by
  rw [← hR]; exact join_any g n cap l k w hk0 hk1 hl hn hs hp

set_option maxHeartbeats 1000000 in
theorem rmul_any (x y : Int) (hx : Word x) (hy : Word y) (w : World) :
    Calls Tryd.prog 47 #[.int .u64 x, .int .u64 y] w fun e w' => e = .returned (.agg #[.int .u64 (hiOf (x * y)), .int .u64 (loOf (x * y))]) ∧ Below w.heap.size w w' := by
  have sx := wordsOf_small (xs := [x]) (by simpa using hx)
  have sy := wordsOf_small (xs := [y]) (by simpa using hy)
  have lx : (wordsOf [x]).length = 2 := rfl
  have ly : (wordsOf [y]).length = 2 := rfl
  have HX := Lib.hid lx; have HY := Lib.hid ly
  clear lx ly
  go_enter Tryd.func47, Tryd.ntmps47
  go_wp2_with fail
  refine (words1 _ _ (by simp) _ _ hx).mono ?_; rintro e w1 ⟨g1, c1, rfl, hn1, hB1, hl1⟩; obtain ⟨hc1, hf1⟩ := keep hB1; have hz1 := hB1.size; try simp at hz1
  go_wp2_with fail
  refine (words1 _ _ (by simp) _ _ hy).mono ?_; rintro e w2 ⟨g2, c2, rfl, hn2, hB2, hl2⟩; obtain ⟨hc2, hf2⟩ := keep hB2; have hz2 := hB2.size; try simp at hz2
  go_wp2_with fail
  refine (times_at g1 g2 2 2 c1 c2 _ _ _ HX.out HY.out (by omega) (by omega) 4 rfl (by omega) hl2 sx sy (hn1.keep (B := w1.heap.size) (((Below.refl _ _).alloc (Nat.le_refl _) _).trans (hB2.mono (by simp))) hl1) hn2).mono ?_
  rintro e w3 ⟨g3, os, rfl, hl3, hn3, hs3, hv3, hB3, hg3⟩; obtain ⟨hc3, hf3⟩ := keep hB3; have hz3 := hB3.size; try simp at hz3
  rw [val_words1, val_words1] at hv3
  obtain ⟨k1, k2⟩ := val4 hl3 hs3 hv3
  have HL := Lib.hid hl3; have HV := Lib.hid hv3; have K1 := Lib.hid k1; have K2 := Lib.hid k2
  clear hl3 hv3 k1 k2
  go_wp2_with fail
  refine (join_at g3 4 4 os 1 (hiOf (x * y)) _ (by omega) (by omega) (by rw [HL.out]; decide) (by rw [HL.out]; decide) hs3 hn3 K2.out).mono ?_; rintro e w4 ⟨rfl, hB4⟩; obtain ⟨hc4, hf4⟩ := keep hB4; have hz4 := hB4.size; try simp at hz4
  go_wp2_with fail
  refine (join_at g3 4 4 os 0 (loOf (x * y)) _ (by omega) (by omega) (by rw [HL.out]; decide) (by rw [HL.out]; decide) hs3 (hn3.keep hB4 hg3) K1.out).mono ?_; rintro e w5 ⟨rfl, hB5⟩; obtain ⟨hc5, hf5⟩ := keep hB5; have hz5 := hB5.size; try simp at hz5
  clear hn1 hn2 hn3 sx sy hs3
  go_wp2
  exact bodyPost_ret (v := .agg #[.int .u64 (hiOf (x * y)), .int .u64 (loOf (x * y))]) (by simp [*, results, Tryd.results47, go_sem]) rfl ⟨rfl, by (repeat' (first | (with_reducible exact Below.refl _ _) | (with_reducible assumption) | (with_reducible refine Below.alloc ?_ ?_ _) | (with_reducible refine Below.drew ?_) | (with_reducible refine drewN_below ?_ _) | (with_reducible refine Below.setCell ?_ ?_ _) | (with_reducible refine below_call (by with_reducible assumption) ?_ ?_) | (first | (with_reducible exact Nat.le_refl _) | (with_reducible assumption) | omega | (simp; done) | (simp; omega))))⟩

set_option maxHeartbeats 400000 in
theorem rabs_any (n : Int) (hn : Int64 n) (w : World) :
    Calls Tryd.prog 25 #[.int .i64 n] w fun e w' => e = .returned (.int .u64 (absI n)) ∧ w = w' := by
  obtain ⟨h1, h2⟩ := hn
  by_cases h : n < 0
  · have hv : absI n = -(n + 1) + 1 := by unfold absI; rw [if_pos h]; omega
    rw [hv]; clear hv
    go_enter Tryd.func25, Tryd.ntmps25
    go_wp2
    go_ret
    exact ⟨rfl, rfl⟩
  · have hv : absI n = n := by simp [absI, h]
    rw [hv]; clear hv
    go_enter Tryd.func25, Tryd.ntmps25
    go_wp2
    go_ret
    exact ⟨rfl, rfl⟩

set_option maxHeartbeats 400000 in
theorem rsquare_any (n : Int) (hn : Int64 n) (w : World) :
    Calls Tryd.prog 29 #[.int .i64 n] w fun e w' => e = .returned (.agg #[.int .u64 (hiOf (n * n)), .int .u64 (loOf (n * n))]) ∧ Below w.heap.size w w' := by
  have ha := absI_word hn
  rw [← absI_mul n]
  go_enter Tryd.func29, Tryd.ntmps29
  go_wp2_with (first | (go_at_call 25; refine (rabs_any _ hn _).mono ?_; rintro e w' ⟨rfl, rfl⟩) | (go_at_call 47; refine (rmul_any _ _ ha ha _).mono ?_; rintro e w' ⟨rfl, hB⟩; obtain ⟨hc, hf⟩ := keep hB; have hz := hB.size; try simp at hz))
  exact bodyPost_ret (v := .agg #[.int .u64 (hiOf (absI n * absI n)), .int .u64 (loOf (absI n * absI n))]) (by simp [*, results, Tryd.results29, go_sem]) rfl ⟨rfl, by (repeat' (first | (with_reducible exact Below.refl _ _) | (with_reducible assumption) | (with_reducible refine Below.alloc ?_ ?_ _) | (with_reducible refine Below.drew ?_) | (with_reducible refine drewN_below ?_ _) | (with_reducible refine Below.setCell ?_ ?_ _) | (with_reducible refine below_call (by with_reducible assumption) ?_ ?_) | (first | (with_reducible exact Nat.le_refl _) | (with_reducible assumption) | omega | (simp; done) | (simp; omega))))⟩
end Go.Proofs.YthamagnlpndnoaaDoor
