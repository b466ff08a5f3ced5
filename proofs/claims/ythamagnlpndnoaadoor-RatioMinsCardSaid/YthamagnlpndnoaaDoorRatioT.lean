/- Package ratio: Text, Of, Less; pergolaref1.Of. -/
import Derived.Test.YthamagnlpndnoaaDoorText
import Derived.Test.YthamagnlpndnoaaDoorRatioA
import Derived.Test.YthamagnlpndnoaaDoorRatioC
import Derived.Test.YthamagnlpndnoaaDoorEq
namespace Go.Proofs.YthamagnlpndnoaaDoor
open Go.RowKit

/-- A fraction's text: none, or its lowest terms. -/
def distText (N d : Int) : ByteArray :=
  if d = 0 then ⟨#[110, 111, 110, 101]⟩ else if d / lowG N d = 1 then numeral (N / lowG N d) else numeral (N / lowG N d) ++ ⟨#[47]⟩ ++ numeral (d / lowG N d)

theorem numeral_le {n : Int} (h : Big n) : (numeral n).size ≤ 39 := dec_len 39 _ (by omega) (by unfold Big at h; omega)

set_option maxHeartbeats 400000 in
theorem rtext_no (h l : Int) (w : World) :
    Calls Tryd.prog 18 #[.agg #[.int .u64 h, .int .u64 l, .int .u64 0]] w fun e w' => e = .returned (.string ⟨#[110, 111, 110, 101]⟩) ∧ Below w.heap.size w w' := by
  go_enter Tryd.func18, Tryd.ntmps18
  go_wp2_with fail
  refine (sound_any _ _ _ _).mono ?_; rintro e w1 ⟨rfl, hB1⟩; obtain ⟨hc1, hf1⟩ := keep hB1; have hz1 := hB1.size; try simp at hz1
  go_wp2
  go_ret
  exact ⟨rfl, by (repeat' (first | (with_reducible exact Below.refl _ _) | (with_reducible assumption) | (with_reducible refine Below.alloc ?_ ?_ _) | (with_reducible refine Below.drew ?_) | (with_reducible refine drewN_below ?_ _) | (with_reducible refine Below.setCell ?_ ?_ _) | (with_reducible refine below_call (by with_reducible assumption) ?_ ?_) | (first | (with_reducible exact Nat.le_refl _) | (with_reducible assumption) | omega | (simp; done) | (simp; omega))))⟩

theorem low_words {h l d : Int} (h1 : Word h) (h2 : Word l) (h3 : Word d) (h4 : 0 < d) :
    Big (num h l / lowG (num h l) d) ∧ Word (d / lowG (num h l) d) := by
  have hN := num_big h1 h2
  have hr0 := Int.emod_nonneg (num h l) (show d ≠ 0 by omega)
  have hg : 0 < lowG (num h l) d := gcdV_pos h4
  refine ⟨⟨Int.ediv_nonneg hN.1 (Int.le_of_lt hg), ?_⟩, quo_word h3 hg⟩
  have := Int.ediv_le_self (b := lowG (num h l) d) hN.1
  have := hN.2
  omega

set_option maxHeartbeats 4000000 in
theorem rtext_some (h l d : Int) (h1 : Word h) (h2 : Word l) (h3 : Word d) (h4 : 0 < d) (w : World) (htab : Tab w) :
    Calls Tryd.prog 18 #[.agg #[.int .u64 h, .int .u64 l, .int .u64 d]] w fun e w' => e = .returned (.string (distText (num h l) d)) ∧ Below w.heap.size w w' := by
  obtain ⟨hq, he⟩ := low_words h1 h2 h3 h4
  have HL := fun w => plowest_any h l d h1 h2 h3 h4 w
  have HT := fun w ht => text_any (hiOf (num h l / lowG (num h l) d)) (loOf (num h l / lowG (num h l) d)) (hiOf_word _) (loOf_word _) w ht
  rw [num_hl hq] at HT
  have HF := fun w ht => fmt_any (d / lowG (num h l) d) he w ht
  change ∀ w (ht : Tab w), Calls _ _ _ _ (fun e w' => e = .returned (.string (numeral (d / lowG (num h l) d))) ∧ _) at HF
  have z1 := numeral_le hq
  have z2 := numeral_le (n := d / lowG (num h l) d) (by unfold Word at he; unfold Big; omega)
  unfold distText
  rw [if_neg (by omega)]
  have hd : (d != 0) = true := bne_iff_ne.2 (by omega)
  generalize hiOf (num h l / lowG (num h l) d) = q1 at *
  generalize loOf (num h l / lowG (num h l) d) = q0 at *
  generalize numeral (num h l / lowG (num h l) d) = s at *
  generalize numeral (d / lowG (num h l) d) = t at *
  generalize d / lowG (num h l) d = e at *
  by_cases h1' : e = 1
  · rw [if_pos h1']
    have hb : (e == 1) = true := beq_iff_eq.2 h1'
    clear h1' hq he HF z1 z2 h1 h2 h3 h4
    go_enter Tryd.func18, Tryd.ntmps18
    go_wp2_with fail
    refine (sound_any _ _ _ _).mono ?_; rintro e w1 ⟨rfl, hB1⟩; obtain ⟨hc1, hf1⟩ := keep hB1; have hz1 := hB1.size; try simp at hz1
    go_wp2_with fail
    (refine wp_region_bar 5 (by kernel_rfl) (by kernel_rfl) (by kernel_rfl) ?_; change StepsT _ _ _ _ [_, _, _, _, _] _; (repeat (first | (refine stepT_val (v := ?_) (by rfl) ?_ ?_; rotate_left; (· (intro z hz; obtain ⟨hc, hf⟩ := keep hz; go_simp; first | done | (with_reducible rfl))); (try simp only [Act.put, List.setIfInBounds_toArray, List.set_cons_zero, List.set_cons_succ])) | (refine stepT_skip (by rfl) ?_; (try simp only [Act.put, List.setIfInBounds_toArray, List.set_cons_zero, List.set_cons_succ])) | (refine stepT_call (v := ?_) (f := ?_) (args := ?_) (by rfl) ?_ ?_ ?_; rotate_left; rotate_left; rotate_left; (· (intro z hz; go_simp; first | done | (with_reducible rfl) | (constructor <;> with_reducible rfl))); (· (intro z hz; first | (go_at_call 33; refine (top_any _ _ _ _).mono ?_; rintro e w' ⟨rfl, hB⟩; refine ⟨?_, hz.trans (hB.mono hz.size)⟩; with_reducible rfl) | (go_at_call 26; refine (HL _).mono ?_; rintro e w' ⟨rfl, hB⟩; refine ⟨?_, hz.trans (hB.mono hz.size)⟩; with_reducible rfl))); (try simp only [Act.put, List.setIfInBounds_toArray, List.set_cons_zero, List.set_cons_succ])))); refine stepT_end ?_; intro z0 hz0; obtain ⟨hc0, hf0⟩ := keep hz0; have hs0 := hz0.size; (try simp at hs0); refine bar_store (z' := ?_) (by rfl) (by rfl) (by rfl) ?_ ?_; rotate_left; (· (go_simp; first | done | (with_reducible rfl) | (constructor <;> with_reducible rfl))); change Steps _ _ _ _ [] _; refine steps_end ?_; rintro _ rfl)
    go_wp2_with fail
    refine (top_any _ _ _ _).mono ?_; rintro e w3 ⟨rfl, hB3⟩; obtain ⟨hc3, hf3⟩ := keep hB3; have hz3 := hB3.size; try simp at hz3
    go_wp2_with fail
    refine (HT _ (htab.below (by (repeat' (first | (with_reducible exact Below.refl _ _) | (with_reducible assumption) | (with_reducible refine Below.alloc ?_ ?_ _) | (with_reducible refine Below.drew ?_) | (with_reducible refine drewN_below ?_ _) | (with_reducible refine Below.setCell ?_ ?_ _) | (with_reducible refine below_call (by with_reducible assumption) ?_ ?_) | (first | (with_reducible exact Nat.le_refl _) | (with_reducible assumption) | omega | (simp; done) | (simp; omega))))))).mono ?_; rintro e w4 ⟨rfl, hB4⟩; obtain ⟨hc4, hf4⟩ := keep hB4; have hz4 := hB4.size; try simp at hz4
    go_wp2
    go_ret
    exact ⟨rfl, by (repeat' (first | (with_reducible exact Below.refl _ _) | (with_reducible assumption) | (with_reducible refine Below.alloc ?_ ?_ _) | (with_reducible refine Below.drew ?_) | (with_reducible refine drewN_below ?_ _) | (with_reducible refine Below.setCell ?_ ?_ _) | (with_reducible refine below_call (by with_reducible assumption) ?_ ?_) | (first | (with_reducible exact Nat.le_refl _) | (with_reducible assumption) | omega | (simp; done) | (simp; omega))))⟩
  · rw [if_neg h1']
    have hb : (e == 1) = false := beq_eq_false_iff_ne.2 h1'
    have ha1 : ∀ w, (Op.stringOp .add s ⟨#[47]⟩).run Tryd.prog w = .ok (.string (s ++ ⟨#[47]⟩)) w := fun w => run_string_add_sum w s _ (by rw [show (⟨#[47]⟩ : ByteArray).size = 1 from rfl]; omega)
    have ha2 : ∀ w, (Op.stringOp .add (s ++ ⟨#[47]⟩) t).run Tryd.prog w = .ok (.string (s ++ ⟨#[47]⟩ ++ t)) w := fun w => run_string_add_sum w _ t (by rw [ByteArray.size_append, show (⟨#[47]⟩ : ByteArray).size = 1 from rfl]; omega)
    have hb1 : ¬ 9223372036854775807 < s.size + (⟨#[47]⟩ : ByteArray).size := by rw [show (⟨#[47]⟩ : ByteArray).size = 1 from rfl]; omega
    have hb2 : ¬ 9223372036854775807 < s.size + (⟨#[47]⟩ : ByteArray).size + t.size := by rw [show (⟨#[47]⟩ : ByteArray).size = 1 from rfl]; omega
    clear h1' hq he z1 z2 h1 h2 h3 h4
    go_enter Tryd.func18, Tryd.ntmps18
    go_wp2_with fail
    refine (sound_any _ _ _ _).mono ?_; rintro e w1 ⟨rfl, hB1⟩; obtain ⟨hc1, hf1⟩ := keep hB1; have hz1 := hB1.size; try simp at hz1
    go_wp2_with fail
    (refine wp_region_bar 5 (by kernel_rfl) (by kernel_rfl) (by kernel_rfl) ?_; change StepsT _ _ _ _ [_, _, _, _, _] _; (repeat (first | (refine stepT_val (v := ?_) (by rfl) ?_ ?_; rotate_left; (· (intro z hz; obtain ⟨hc, hf⟩ := keep hz; go_simp; first | done | (with_reducible rfl))); (try simp only [Act.put, List.setIfInBounds_toArray, List.set_cons_zero, List.set_cons_succ])) | (refine stepT_skip (by rfl) ?_; (try simp only [Act.put, List.setIfInBounds_toArray, List.set_cons_zero, List.set_cons_succ])) | (refine stepT_call (v := ?_) (f := ?_) (args := ?_) (by rfl) ?_ ?_ ?_; rotate_left; rotate_left; rotate_left; (· (intro z hz; go_simp; first | done | (with_reducible rfl) | (constructor <;> with_reducible rfl))); (· (intro z hz; first | (go_at_call 33; refine (top_any _ _ _ _).mono ?_; rintro e w' ⟨rfl, hB⟩; refine ⟨?_, hz.trans (hB.mono hz.size)⟩; with_reducible rfl) | (go_at_call 26; refine (HL _).mono ?_; rintro e w' ⟨rfl, hB⟩; refine ⟨?_, hz.trans (hB.mono hz.size)⟩; with_reducible rfl))); (try simp only [Act.put, List.setIfInBounds_toArray, List.set_cons_zero, List.set_cons_succ])))); refine stepT_end ?_; intro z0 hz0; obtain ⟨hc0, hf0⟩ := keep hz0; have hs0 := hz0.size; (try simp at hs0); refine bar_store (z' := ?_) (by rfl) (by rfl) (by rfl) ?_ ?_; rotate_left; (· (go_simp; first | done | (with_reducible rfl) | (constructor <;> with_reducible rfl))); change Steps _ _ _ _ [] _; refine steps_end ?_; rintro _ rfl)
    go_wp2_with fail
    refine (top_any _ _ _ _).mono ?_; rintro e w3 ⟨rfl, hB3⟩; obtain ⟨hc3, hf3⟩ := keep hB3; have hz3 := hB3.size; try simp at hz3
    go_wp2_with fail
    refine (HT _ (htab.below (by (repeat' (first | (with_reducible exact Below.refl _ _) | (with_reducible assumption) | (with_reducible refine Below.alloc ?_ ?_ _) | (with_reducible refine Below.drew ?_) | (with_reducible refine drewN_below ?_ _) | (with_reducible refine Below.setCell ?_ ?_ _) | (with_reducible refine below_call (by with_reducible assumption) ?_ ?_) | (first | (with_reducible exact Nat.le_refl _) | (with_reducible assumption) | omega | (simp; done) | (simp; omega))))))).mono ?_; rintro e w4 ⟨rfl, hB4⟩; obtain ⟨hc4, hf4⟩ := keep hB4; have hz4 := hB4.size; try simp at hz4
    go_wp2_with fail
    refine (HF _ (htab.below (by (repeat' (first | (with_reducible exact Below.refl _ _) | (with_reducible assumption) | (with_reducible refine Below.alloc ?_ ?_ _) | (with_reducible refine Below.drew ?_) | (with_reducible refine drewN_below ?_ _) | (with_reducible refine Below.setCell ?_ ?_ _) | (with_reducible refine below_call (by with_reducible assumption) ?_ ?_) | (first | (with_reducible exact Nat.le_refl _) | (with_reducible assumption) | omega | (simp; done) | (simp; omega))))))).mono ?_; rintro e w5 ⟨rfl, hB5⟩; obtain ⟨hc5, hf5⟩ := keep hB5; have hz5 := hB5.size; try simp at hz5
    go_wp2
    go_ret
    exact ⟨rfl, by (repeat' (first | (with_reducible exact Below.refl _ _) | (with_reducible assumption) | (with_reducible refine Below.alloc ?_ ?_ _) | (with_reducible refine Below.drew ?_) | (with_reducible refine drewN_below ?_ _) | (with_reducible refine Below.setCell ?_ ?_ _) | (with_reducible refine below_call (by with_reducible assumption) ?_ ?_) | (first | (with_reducible exact Nat.le_refl _) | (with_reducible assumption) | omega | (simp; done) | (simp; omega))))⟩

theorem rtext_any (h l d : Int) (h1 : Word h) (h2 : Word l) (h3 : Word d) (w : World) (htab : Tab w) :
    Calls Tryd.prog 18 #[.agg #[.int .u64 h, .int .u64 l, .int .u64 d]] w fun e w' => e = .returned (.string (distText (num h l) d)) ∧ Below w.heap.size w w' := by
  by_cases hd : d = 0
  · subst hd
    rw [show distText (num h l) 0 = ⟨#[110, 111, 110, 101]⟩ from by unfold distText; rw [if_pos rfl]]
    exact rtext_no h l w
  · exact rtext_some h l d h1 h2 h3 (by unfold Word at h3; omega) w htab

set_option maxHeartbeats 400000 in
theorem of_any (n : Int) (hn : Int64 n) (w : World) :
    Calls Tryd.prog 12 #[.int .i64 n] w fun e w' => e = .returned (.agg #[.int .u64 (hiOf (n * n)), .int .u64 (loOf (n * n)), .int .u64 1]) ∧ Below w.heap.size w w' := by
  have HS := fun w => wsquare_any n hn w
  generalize hiOf (n * n) = s1 at *
  generalize loOf (n * n) = s0 at *
  go_enter Tryd.func12, Tryd.ntmps12
  go_wp2_with fail
  refine (HS _).mono ?_; rintro e w1 ⟨rfl, hB1⟩; obtain ⟨hc1, hf1⟩ := keep hB1; have hz1 := hB1.size; try simp at hz1
  go_wp2
  exact bodyPost_ret (v := .agg #[.int .u64 s1, .int .u64 s0, .int .u64 1]) (by simp [*, results, Tryd.results12, go_sem]) rfl ⟨rfl, by (repeat' (first | (with_reducible exact Below.refl _ _) | (with_reducible assumption) | (with_reducible refine Below.alloc ?_ ?_ _) | (with_reducible refine Below.drew ?_) | (with_reducible refine drewN_below ?_ _) | (with_reducible refine Below.setCell ?_ ?_ _) | (with_reducible refine below_call (by with_reducible assumption) ?_ ?_) | (first | (with_reducible exact Nat.le_refl _) | (with_reducible assumption) | omega | (simp; done) | (simp; omega))))⟩
set_option maxHeartbeats 400000 in
theorem rof_any (n : Int) (hn : Int64 n) (w : World) :
    Calls Tryd.prog 13 #[.int .i64 n] w fun e w' => e = .returned (.agg #[.int .u64 (hiOf (n * n)), .int .u64 (loOf (n * n)), .int .u64 1]) ∧ Below w.heap.size w w' := by
  have HS := fun w => rsquare_any n hn w
  have HL := fun w => lowest1_any (hiOf (n * n)) (loOf (n * n)) (hiOf_word _) (loOf_word _) w
  generalize hiOf (n * n) = s1 at *
  generalize loOf (n * n) = s0 at *
  go_enter Tryd.func13, Tryd.ntmps13
  go_wp2_with fail
  refine (HS _).mono ?_; rintro e w1 ⟨rfl, hB1⟩; obtain ⟨hc1, hf1⟩ := keep hB1; have hz1 := hB1.size; try simp at hz1
  go_wp2_with fail
  refine (HL _).mono ?_; rintro e w2 ⟨rfl, hB2⟩; obtain ⟨hc2, hf2⟩ := keep hB2; have hz2 := hB2.size; try simp at hz2
  go_wp2
  exact bodyPost_ret (v := .agg #[.int .u64 s1, .int .u64 s0, .int .u64 1]) (by simp [*, results, Tryd.results13, go_sem]) rfl ⟨rfl, by (repeat' (first | (with_reducible exact Below.refl _ _) | (with_reducible assumption) | (with_reducible refine Below.alloc ?_ ?_ _) | (with_reducible refine Below.drew ?_) | (with_reducible refine drewN_below ?_ _) | (with_reducible refine Below.setCell ?_ ?_ _) | (with_reducible refine below_call (by with_reducible assumption) ?_ ?_) | (first | (with_reducible exact Nat.le_refl _) | (with_reducible assumption) | omega | (simp; done) | (simp; omega))))⟩

/-- What is near: an id, and its distance's three words. -/
abbrev nearV (i h l d : Int) : Value := .agg #[.int .i64 i, .int .u64 h, .int .u64 l, .int .u64 d]
set_option maxHeartbeats 2000000 in
theorem less_any (i ah al ad j bh bl bd : Int) (h1 : Word ah) (h2 : Word al) (h3 : Word ad) (h4 : Word bh) (h5 : Word bl) (h6 : Word bd) (w : World) :
    Calls Tryd.prog 20 #[nearV i ah al ad, nearV j bh bl bd] w fun e w' => e = .returned (.bool (decide (orV [cmpD ah al ad bh bl bd, cmpV i j] < 0))) ∧ Below w.heap.size w w' := by
  have HC := fun w => rcmp_any ah al ad bh bl bd h1 h2 h3 h4 h5 h6 w
  generalize cmpD ah al ad bh bl bd = K at *
  clear h1 h2 h3 h4 h5 h6
  go_enter Tryd.func20, Tryd.ntmps20
  go_wp2_with fail
  (refine wp_region_bar 10 (by kernel_rfl) (by kernel_rfl) (by kernel_rfl) ?_; change StepsT _ _ _ _ [_, _, _, _, _, _, _, _, _, _] _; (repeat (first | (refine stepT_val (v := ?_) (by rfl) ?_ ?_; rotate_left; (· (intro z hz; obtain ⟨hc, hf⟩ := keep hz; go_simp; first | done | (with_reducible rfl))); (try simp only [Act.put, List.setIfInBounds_toArray, List.set_cons_zero, List.set_cons_succ])) | (refine stepT_skip (by rfl) ?_; (try simp only [Act.put, List.setIfInBounds_toArray, List.set_cons_zero, List.set_cons_succ])) | (refine stepT_call (v := ?_) (f := ?_) (args := ?_) (by rfl) ?_ ?_ ?_; rotate_left; rotate_left; rotate_left; (· (intro z hz; obtain ⟨hc, hf⟩ := keep hz; go_simp; first | done | (with_reducible rfl) | (constructor <;> with_reducible rfl))); (· (intro z hz; first | (go_at_call 38; refine (cmpI_any _ _ _).mono ?_; rintro e w' ⟨rfl, rfl⟩; refine ⟨?_, hz⟩; with_reducible rfl) | (go_at_call 17; refine (HC _).mono ?_; rintro e w' ⟨rfl, hB⟩; refine ⟨?_, hz.trans (hB.mono hz.size)⟩; with_reducible rfl))); (try simp only [Act.put, List.setIfInBounds_toArray, List.set_cons_zero, List.set_cons_succ])))); refine stepT_end ?_; intro z0 hz0; obtain ⟨hc0, hf0⟩ := keep hz0; have hs0 := hz0.size; try simp at hs0); (refine bar_val (v := ?_) (z' := ?_) (by rfl) (by rfl) ?_ ?_; rotate_left; rotate_left; (· (go_simp; first | done | (with_reducible rfl) | (constructor <;> with_reducible rfl))); (try simp only [Act.put, List.setIfInBounds_toArray, List.set_cons_zero, List.set_cons_succ]); change Steps _ _ _ _ [_, _, _] _); ((repeat (first | (refine step_val (v := ?_) (by rfl) ?_ ?_; rotate_left; (· (intro z hz; obtain ⟨hc, hf⟩ := keep hz; go_simp; first | done | (with_reducible rfl))); (try simp only [Act.put, List.setIfInBounds_toArray, List.set_cons_zero, List.set_cons_succ])) | (refine step_skip (by rfl) ?_; (try simp only [Act.put, List.setIfInBounds_toArray, List.set_cons_zero, List.set_cons_succ])) | (refine step_call (v := ?_) (f := ?_) (args := ?_) (by rfl) ?_ ?_ ?_; rotate_left; rotate_left; rotate_left; (· (intro z hz; go_simp; first | done | (with_reducible rfl) | (constructor <;> with_reducible rfl))); (· (intro z hz; first | (go_at_call 38; refine (cmpI_any _ _ _).mono ?_; rintro e w' ⟨rfl, rfl⟩; refine ⟨?_, hz⟩; with_reducible rfl) | (go_at_call 17; refine (HC _).mono ?_; rintro e w' ⟨rfl, hB⟩; refine ⟨?_, hz.trans (hB.mono hz.size)⟩; with_reducible rfl) | (go_at_call 37; obtain ⟨hc, hf⟩ := keep hz; have hzz := hz.size; try simp at hzz; refine (or2_any _ K (cmpV i j) _ (by go_simp) (by go_simp)).mono ?_; rintro e w' ⟨rfl, rfl⟩; refine ⟨?_, hz⟩; with_reducible rfl))); (try simp only [Act.put, List.setIfInBounds_toArray, List.set_cons_zero, List.set_cons_succ])))); refine steps_end ?_; intro w' hB; obtain ⟨hc, hf⟩ := keep hB; have hz := hB.size; try simp at hz)
  go_wp2
  go_ret
  exact ⟨rfl, by (repeat' (first | (with_reducible exact Below.refl _ _) | (with_reducible assumption) | (with_reducible refine Below.alloc ?_ ?_ _) | (with_reducible refine Below.drew ?_) | (with_reducible refine drewN_below ?_ _) | (with_reducible refine Below.setCell ?_ ?_ _) | (with_reducible refine below_call (by with_reducible assumption) ?_ ?_) | (first | (with_reducible exact Nat.le_refl _) | (with_reducible assumption) | omega | (simp; done) | (simp; omega))))⟩
end Go.Proofs.YthamagnlpndnoaaDoor
