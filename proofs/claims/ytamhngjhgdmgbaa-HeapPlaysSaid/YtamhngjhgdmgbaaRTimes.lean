/- pergolaref1: Times, CompareProducts, CompareDist. -/
import Derived.Test.YtamhngjhgdmgbaaRMul
import Derived.Test.YtamhngjhgdmgbaaRef1A
import Derived.Test.YtamhngjhgdmgbaaRegion
namespace Go.Proofs.Ytamhngjhgdmgbaa
open Go.RowKit

def topOf (n : Int) : Int := n / 340282366920938463463374607431768211456
theorem val6 {os : List Int} (hl : os.length = 6) (hs : Small os) {N : Int} (hv : val os = N) : os.getD 0 0 + os.getD 1 0 * 4294967296 = loOf N ∧ os.getD 2 0 + os.getD 3 0 * 4294967296 = hiOf N ∧ os.getD 4 0 + os.getD 5 0 * 4294967296 = topOf N := by
  match os, hl with
  | [a, b, c, d, e, f], _ =>
    have h0 := hs 0; have h1 := hs 1; have h2 := hs 2; have h3 := hs 3; have h4 := hs 4; have h5 := hs 5
    simp only [List.getD_cons_zero, List.getD_cons_succ] at *
    simp only [val, B32] at hv
    unfold loOf hiOf topOf
    omega

set_option maxHeartbeats 1000000 in
theorem rtimes_any (ah al b : Int) (h1 : Word ah) (h2 : Word al) (h3 : Word b) (w : World) :
    Calls Try.prog 36 #[.agg #[.int .u64 ah, .int .u64 al], .int .u64 b] w fun e w' => e = .returned (.tuple #[.int .u64 (topOf (num ah al * b)), .agg #[.int .u64 (hiOf (num ah al * b)), .int .u64 (loOf (num ah al * b))]]) ∧ Below w.heap.size w w' := by
  have sx := wordsOf_small (xs := [al, ah]) (by intro z hz; simp at hz; rcases hz with rfl | rfl <;> assumption)
  have sy := wordsOf_small (xs := [b]) (by simpa using h3)
  have lx : (wordsOf [al, ah]).length = 4 := rfl
  have ly : (wordsOf [b]).length = 2 := rfl
  have HX := Lib.hid lx; have HY := Lib.hid ly
  clear lx ly
  go_enter Try.func36, Try.ntmps36
  go_wp2_with fail
  refine (words2 _ _ (by simp) _ _ _ h2 h1).mono ?_; rintro e w1 ⟨g1, c1, rfl, hn1, hB1, hl1⟩; obtain ⟨hc1, hf1⟩ := keep hB1; have hz1 := hB1.size; try simp at hz1
  go_wp2_with fail
  refine (words1 _ _ (by simp) _ _ h3).mono ?_; rintro e w2 ⟨g2, c2, rfl, hn2, hB2, hl2⟩; obtain ⟨hc2, hf2⟩ := keep hB2; have hz2 := hB2.size; try simp at hz2
  go_wp2_with fail
  refine (times_at g1 g2 4 2 c1 c2 _ _ _ HX.out HY.out (by omega) (by omega) 6 rfl (by omega) hl2 sx sy (hn1.keep (B := w1.heap.size) (((Below.refl _ _).alloc (Nat.le_refl _) _).trans (hB2.mono (by simp))) hl1) hn2).mono ?_
  rintro e w3 ⟨g3, os, rfl, hl3, hn3, hs3, hv3, hB3, hg3⟩; obtain ⟨hc3, hf3⟩ := keep hB3; have hz3 := hB3.size; try simp at hz3
  rw [val_words2, val_words1] at hv3
  obtain ⟨k1, k2, k3⟩ := val6 hl3 hs3 hv3
  have HL := Lib.hid hl3; have HV := Lib.hid hv3; have K1 := Lib.hid k1; have K2 := Lib.hid k2; have K3 := Lib.hid k3
  clear hl3 hv3 k1 k2 k3
  go_wp2_with fail
  refine (join_at g3 6 6 os 2 (topOf (num ah al * b)) _ (by omega) (by omega) (by rw [HL.out]; decide) (by rw [HL.out]; decide) hs3 hn3 K3.out).mono ?_; rintro e w4 ⟨rfl, hB4⟩; obtain ⟨hc4, hf4⟩ := keep hB4; have hz4 := hB4.size; try simp at hz4
  go_wp2_with fail
  refine (join_at g3 6 6 os 1 (hiOf (num ah al * b)) _ (by omega) (by omega) (by rw [HL.out]; decide) (by rw [HL.out]; decide) hs3 (hn3.keep hB4 hg3) K2.out).mono ?_; rintro e w5 ⟨rfl, hB5⟩; obtain ⟨hc5, hf5⟩ := keep hB5; have hz5 := hB5.size; try simp at hz5
  go_wp2_with fail
  refine (join_at g3 6 6 os 0 (loOf (num ah al * b)) _ (by omega) (by omega) (by rw [HL.out]; decide) (by rw [HL.out]; decide) hs3 ((hn3.keep hB4 hg3).keep hB5 (by omega)) K1.out).mono ?_; rintro e w6 ⟨rfl, hB6⟩; obtain ⟨hc6, hf6⟩ := keep hB6; have hz6 := hB6.size; try simp at hz6
  clear hn1 hn2 hn3 sx sy hs3
  go_wp2
  exact bodyPost_ret (v := .tuple #[.int .u64 (topOf (num ah al * b)), .agg #[.int .u64 (hiOf (num ah al * b)), .int .u64 (loOf (num ah al * b))]]) (by simp [*, results, Try.results36, go_sem]) rfl ⟨rfl, by (repeat' (first | (with_reducible exact Below.refl _ _) | (with_reducible assumption) | (with_reducible refine Below.alloc ?_ ?_ _) | (with_reducible refine Below.drew ?_) | (with_reducible refine drewN_below ?_ _) | (with_reducible refine Below.setCell ?_ ?_ _) | (with_reducible refine below_call (by with_reducible assumption) ?_ ?_) | (first | (with_reducible exact Nat.le_refl _) | (with_reducible assumption) | omega | (simp; done) | (simp; omega))))⟩

theorem num_mul_bd {h l b : Int} (h1 : Word h) (h2 : Word l) (h3 : Word b) : 0 ≤ num h l * b ∧ num h l * b < 6277101735386680763835789423207666416102355444464034512896 := by
  have hb := num_big h1 h2
  unfold Big at hb; unfold Word at h3
  have e1 := Int.mul_nonneg hb.1 h3.1
  have e2 : num h l * b ≤ num h l * 18446744073709551615 := Int.mul_le_mul_of_nonneg_left (by omega) hb.1
  omega
theorem cmp_three {x y : Int} (hx : 0 ≤ x ∧ x < 6277101735386680763835789423207666416102355444464034512896) (hy : 0 ≤ y ∧ y < 6277101735386680763835789423207666416102355444464034512896) :
    cmpV x y = if topOf x < topOf y then -1 else if topOf y < topOf x then 1 else cmpV (num (hiOf x) (loOf x)) (num (hiOf y) (loOf y)) := by
  unfold cmpV topOf num hiOf loOf; omega

set_option maxHeartbeats 1000000 in
theorem rcmpProducts_any (ah al b ch cl d : Int) (h1 : Word ah) (h2 : Word al) (h3 : Word b) (h4 : Word ch) (h5 : Word cl) (h6 : Word d) (w : World) :
    Calls Try.prog 30 #[.agg #[.int .u64 ah, .int .u64 al], .int .u64 b, .agg #[.int .u64 ch, .int .u64 cl], .int .u64 d] w fun e w' => e = .returned (.int .i64 (cmpV (num ah al * b) (num ch cl * d))) ∧ Below w.heap.size w w' := by
  have hc := cmp_three (num_mul_bd h1 h2 h3) (num_mul_bd h4 h5 h6)
  have t : (topOf (num ah al * b) < topOf (num ch cl * d)) ∨ (topOf (num ch cl * d) < topOf (num ah al * b)) ∨ (¬ topOf (num ah al * b) < topOf (num ch cl * d) ∧ ¬ topOf (num ch cl * d) < topOf (num ah al * b)) := by omega
  rcases t with t | t | ⟨t, t'⟩
  · rw [if_pos t] at hc
    rw [hc]; clear hc
    go_enter Try.func30, Try.ntmps30
    go_wp2_with fail
    refine (rtimes_any _ _ _ h1 h2 h3 _).mono ?_; rintro e w1 ⟨rfl, hB1⟩; obtain ⟨hc1, hf1⟩ := keep hB1; have hz1 := hB1.size; try simp at hz1
    go_wp2_with fail
    refine (rtimes_any _ _ _ h4 h5 h6 _).mono ?_; rintro e w2 ⟨rfl, hB2⟩; obtain ⟨hc2, hf2⟩ := keep hB2; have hz2 := hB2.size; try simp at hz2
    go_wp2_with fail
    go_ret
    exact ⟨rfl, by (repeat' (first | (with_reducible exact Below.refl _ _) | (with_reducible assumption) | (with_reducible refine Below.alloc ?_ ?_ _) | (with_reducible refine Below.drew ?_) | (with_reducible refine drewN_below ?_ _) | (with_reducible refine Below.setCell ?_ ?_ _) | (with_reducible refine below_call (by with_reducible assumption) ?_ ?_) | (first | (with_reducible exact Nat.le_refl _) | (with_reducible assumption) | omega | (simp; done) | (simp; omega))))⟩
  · rw [if_neg (by omega), if_pos t] at hc
    have t' : ¬ topOf (num ah al * b) < topOf (num ch cl * d) := by omega
    rw [hc]; clear hc
    go_enter Try.func30, Try.ntmps30
    go_wp2_with fail
    refine (rtimes_any _ _ _ h1 h2 h3 _).mono ?_; rintro e w1 ⟨rfl, hB1⟩; obtain ⟨hc1, hf1⟩ := keep hB1; have hz1 := hB1.size; try simp at hz1
    go_wp2_with fail
    refine (rtimes_any _ _ _ h4 h5 h6 _).mono ?_; rintro e w2 ⟨rfl, hB2⟩; obtain ⟨hc2, hf2⟩ := keep hB2; have hz2 := hB2.size; try simp at hz2
    go_wp2_with fail
    go_ret
    exact ⟨rfl, by (repeat' (first | (with_reducible exact Below.refl _ _) | (with_reducible assumption) | (with_reducible refine Below.alloc ?_ ?_ _) | (with_reducible refine Below.drew ?_) | (with_reducible refine drewN_below ?_ _) | (with_reducible refine Below.setCell ?_ ?_ _) | (with_reducible refine below_call (by with_reducible assumption) ?_ ?_) | (first | (with_reducible exact Nat.le_refl _) | (with_reducible assumption) | omega | (simp; done) | (simp; omega))))⟩
  · rw [if_neg t, if_neg t'] at hc
    rw [hc]; clear hc
    go_enter Try.func30, Try.ntmps30
    go_wp2_with fail
    refine (rtimes_any _ _ _ h1 h2 h3 _).mono ?_; rintro e w1 ⟨rfl, hB1⟩; obtain ⟨hc1, hf1⟩ := keep hB1; have hz1 := hB1.size; try simp at hz1
    go_wp2_with fail
    refine (rtimes_any _ _ _ h4 h5 h6 _).mono ?_; rintro e w2 ⟨rfl, hB2⟩; obtain ⟨hc2, hf2⟩ := keep hB2; have hz2 := hB2.size; try simp at hz2
    go_wp2_with fail
    refine (rcompare_any _ _ _ _ (hiOf_word _) (loOf_word _) (hiOf_word _) (loOf_word _) _).mono ?_; rintro e w3 ⟨rfl, hB3⟩; obtain ⟨hc3, hf3⟩ := keep hB3; have hz3 := hB3.size; try simp at hz3
    go_wp2
    go_ret
    exact ⟨rfl, by (repeat' (first | (with_reducible exact Below.refl _ _) | (with_reducible assumption) | (with_reducible refine Below.alloc ?_ ?_ _) | (with_reducible refine Below.drew ?_) | (with_reducible refine drewN_below ?_ _) | (with_reducible refine Below.setCell ?_ ?_ _) | (with_reducible refine below_call (by with_reducible assumption) ?_ ?_) | (first | (with_reducible exact Nat.le_refl _) | (with_reducible assumption) | omega | (simp; done) | (simp; omega))))⟩

/-- Two distances compared; one without a denominator is none, and behind all. -/
def cmpD (ah al ad bh bl bd : Int) : Int := if ad = 0 then (if bd = 0 then 0 else 1) else if bd = 0 then -1 else cmpV (num ah al * bd) (num bh bl * ad)

set_option maxHeartbeats 1000000 in
theorem rcompareDist_any (ah al ad bh bl bd : Int) (h1 : Word ah) (h2 : Word al) (h3 : Word ad) (h4 : Word bh) (h5 : Word bl) (h6 : Word bd) (w : World) :
    Calls Try.prog 24 #[.agg #[.int .u64 ah, .int .u64 al, .int .u64 ad], .agg #[.int .u64 bh, .int .u64 bl, .int .u64 bd]] w fun e w' => e = .returned (.int .i64 (cmpD ah al ad bh bl bd)) ∧ Below w.heap.size w w' := by
  by_cases ha : ad = 0
  · have hv : cmpD ah al ad bh bl bd = if bd = 0 then 0 else 1 := by unfold cmpD; rw [if_pos ha]
    have ha' : (ad == 0) = true := beq_iff_eq.2 ha
    by_cases hb : bd = 0
    · rw [if_pos hb] at hv; rw [hv]
      have hb' : (bd == 0) = true := beq_iff_eq.2 hb
      clear ha hb hv
      go_enter Try.func24, Try.ntmps24
      go_wp2_with fail
      go_ret
      exact ⟨rfl, by (repeat' (first | (with_reducible exact Below.refl _ _) | (with_reducible assumption) | (with_reducible refine Below.alloc ?_ ?_ _) | (with_reducible refine Below.drew ?_) | (with_reducible refine drewN_below ?_ _) | (with_reducible refine Below.setCell ?_ ?_ _) | (with_reducible refine below_call (by with_reducible assumption) ?_ ?_) | (first | (with_reducible exact Nat.le_refl _) | (with_reducible assumption) | omega | (simp; done) | (simp; omega))))⟩
    · rw [if_neg hb] at hv; rw [hv]
      have hb' : (bd == 0) = false := beq_eq_false_iff_ne.2 hb
      clear ha hb hv
      go_enter Try.func24, Try.ntmps24
      go_wp2_with fail
      go_ret
      exact ⟨rfl, by (repeat' (first | (with_reducible exact Below.refl _ _) | (with_reducible assumption) | (with_reducible refine Below.alloc ?_ ?_ _) | (with_reducible refine Below.drew ?_) | (with_reducible refine drewN_below ?_ _) | (with_reducible refine Below.setCell ?_ ?_ _) | (with_reducible refine below_call (by with_reducible assumption) ?_ ?_) | (first | (with_reducible exact Nat.le_refl _) | (with_reducible assumption) | omega | (simp; done) | (simp; omega))))⟩
  · have ha' : (ad == 0) = false := beq_eq_false_iff_ne.2 ha
    by_cases hb : bd = 0
    · have hv : cmpD ah al ad bh bl bd = -1 := by unfold cmpD; rw [if_neg ha, if_pos hb]
      rw [hv]
      have hb' : (bd == 0) = true := beq_iff_eq.2 hb
      clear ha hb hv
      go_enter Try.func24, Try.ntmps24
      go_wp2_with fail
      go_ret
      exact ⟨rfl, by (repeat' (first | (with_reducible exact Below.refl _ _) | (with_reducible assumption) | (with_reducible refine Below.alloc ?_ ?_ _) | (with_reducible refine Below.drew ?_) | (with_reducible refine drewN_below ?_ _) | (with_reducible refine Below.setCell ?_ ?_ _) | (with_reducible refine below_call (by with_reducible assumption) ?_ ?_) | (first | (with_reducible exact Nat.le_refl _) | (with_reducible assumption) | omega | (simp; done) | (simp; omega))))⟩
    · have hv : cmpD ah al ad bh bl bd = cmpV (num ah al * bd) (num bh bl * ad) := by unfold cmpD; rw [if_neg ha, if_neg hb]
      rw [hv]
      have hb' : (bd == 0) = false := beq_eq_false_iff_ne.2 hb
      clear ha hb hv
      go_enter Try.func24, Try.ntmps24
      go_wp2_with fail
      (refine wp_region_text (by kernel_rfl) (by kernel_rfl) ?_; (repeat (first | (refine step_val (v := ?_) (by rfl) ?_ ?_; rotate_left; (· (intro z hz; obtain ⟨hc, hf⟩ := keep hz; go_simp; first | done | (with_reducible rfl))); (try simp only [Act.put, List.setIfInBounds_toArray, List.set_cons_zero, List.set_cons_succ])) | (refine step_skip (by rfl) ?_; (try simp only [Act.put, List.setIfInBounds_toArray, List.set_cons_zero, List.set_cons_succ])) | (refine step_call (v := ?_) (f := ?_) (args := ?_) (by rfl) ?_ ?_ ?_; rotate_left; rotate_left; rotate_left; (· (intro z hz; go_simp; first | done | (with_reducible rfl) | (constructor <;> with_reducible rfl))); (· (intro z hz; first | (go_at_call 31; refine (num_any _ _ _ _).mono ?_; rintro e w' ⟨rfl, hB⟩; refine ⟨?_, hz.trans (hB.mono hz.size)⟩; with_reducible rfl) | (go_at_call 30; refine (rcmpProducts_any _ _ _ _ _ _ h1 h2 h6 h4 h5 h3 _).mono ?_; rintro e w' ⟨rfl, hB⟩; refine ⟨?_, hz.trans (hB.mono hz.size)⟩; with_reducible rfl))); (try simp only [Act.put, List.setIfInBounds_toArray, List.set_cons_zero, List.set_cons_succ])))); refine steps_end ?_; intro w' hB; obtain ⟨hc, hf⟩ := keep hB; have hz := hB.size; try simp at hz)
      go_wp2
      go_ret
      exact ⟨rfl, by (repeat' (first | (with_reducible exact Below.refl _ _) | (with_reducible assumption) | (with_reducible refine Below.alloc ?_ ?_ _) | (with_reducible refine Below.drew ?_) | (with_reducible refine drewN_below ?_ _) | (with_reducible refine Below.setCell ?_ ?_ _) | (with_reducible refine below_call (by with_reducible assumption) ?_ ?_) | (first | (with_reducible exact Nat.le_refl _) | (with_reducible assumption) | omega | (simp; done) | (simp; omega))))⟩
end Go.Proofs.Ytamhngjhgdmgbaa
